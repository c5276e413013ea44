/- The law TableOne: its walk. -/
import Derived.Test.YtkffofolhckjeaaTabW
import Derived.Deep.DeepCutAuto
namespace Go.Proofs.Ytkffofolhckjeaa
open Go.RowKit

set_option maxRecDepth 100000 in
theorem one_big (k : Nat) (A : Option Addr) (n c : Nat) (i : Nat) (h : 100 < n) (w : World) :
    Calls Try.prog 8 #[.int .u8 k, .slice A n c, .int .u8 i] w fun e w' => e = .returned (.bool true) ∧ Below w.heap.size w w' := by
  have h1 : (100 : Int) < (n : Int) := by omega
  clear h
  go_enter Try.func8, Try.ntmps8
  go_wp2_with (go_at_call 15; refine (awake28 _).mono ?_; rintro e w1 ⟨rfl, hb1⟩)
  go_ret
  exact ⟨rfl, hb1⟩

theorem two_rows (w w1 : World) (t : TypeId) (z : Array Value) (hb : Below w.heap.size w w1) : Below w.heap.size w ((w1.alloc (.cells z t)).alloc (.cells z t)) ∧ Blk ((w1.alloc (.cells z t)).alloc (.cells z t)) w1.heap.size t z ∧ Blk ((w1.alloc (.cells z t)).alloc (.cells z t)) (w1.heap.size + 1) t z := by
  refine ⟨bthen hb (bthen (balloc _ _) (balloc _ _)), (Blk.new _ _ _).alloc _, ?_⟩
  have := Blk.new (w1.alloc (.cells z t)) t z
  rwa [World.size_alloc] at this
/-- The first k atoms are in their places. -/
def atQ (k i x : Nat) : Bool := decide (i < k) && x.testBit i
def setQ (b : Bool) (a i x : Nat) : Bool := if i = a then b else x.testBit i
theorem set_id {m : Nat} (hm : m ≤ 10) {a x : Nat} {b : Bool} (hx : x < 2 ^ m) (hb : x.testBit a = b) : yP m (listP (setQ b a) m) x = x := yP_eq hm hx fun i hi => by
  rw [getD_listP _ _ _ hi]
  unfold setQ
  split
  · rename_i e; rw [e, hb]
  · rfl
theorem atom_two {m a : Nat} (ha : a < m) : cP m (fun x => x.testBit a) = (false, false) := by
  unfold cP
  rw [if_neg]
  intro h
  have := h (2 ^ a) (Nat.pow_lt_pow_right (by omega) ha)
  simp [Nat.testBit_two_pow_self] at this

/-- What is asked of f first: one value, or none. -/
def Told (m : Nat) (p : Nat → Bool) (v is s0 s1 : Bool) : Prop :=
  cP m p = (v, is) ∧ s0 = decide (∀ x, x < 2 ^ m → p x = false) ∧ s1 = decide (∀ x, x < 2 ^ m → p x = true)
theorem told_cases (m : Nat) (p : Nat → Bool) : (Told m p false true true false ∨ Told m p true true false true) ∨ (0 < m ∧ Told m p false false false false) := by
  have h0 : 0 < 2 ^ m := Nat.pow_pos (by omega)
  by_cases hc : ∀ x, x < 2 ^ m → p x = p 0
  · left
    cases hp : p 0 with
    | false =>
      left
      have h1 : ∀ x, x < 2 ^ m → p x = false := fun x hx => by rw [hc x hx, hp]
      exact ⟨by unfold cP; rw [if_pos hc, hp], (decide_eq_true h1).symm, (decide_eq_false fun h => by have := h 0 h0; rw [hp] at this; cases this).symm⟩
    | true =>
      right
      have h1 : ∀ x, x < 2 ^ m → p x = true := fun x hx => by rw [hc x hx, hp]
      exact ⟨by unfold cP; rw [if_pos hc, hp], (decide_eq_false fun h => by have := h 0 h0; rw [hp] at this; cases this).symm, (decide_eq_true h1).symm⟩
  · right
    refine ⟨?_, by unfold cP; rw [if_neg hc], (decide_eq_false fun h => hc fun x hx => by rw [h x hx, h 0 h0]).symm, (decide_eq_false fun h => hc fun x hx => by rw [h x hx, h 0 h0]).symm⟩
    rcases Nat.eq_zero_or_pos m with e | e
    · subst e
      exact absurd (fun x hx => by rw [show x = 0 by simpa using hx]) hc
    · exact e

set_option maxRecDepth 100000 in
set_option maxHeartbeats 8000000 in
theorem one_small (k : Nat) (hk : k < 256) (A : Option Addr) (n c : Nat) (j : Nat) (hj : j < 256) (fs : List (BitVec 64)) (h1 : n ≤ 100) (w : World) (rf : Rd (heapF w) 1 A n (fs.map u)) :
    Calls Try.prog 8 #[.int .u8 k, .slice A n c, .int .u8 j] w fun e w' => e = .returned (.bool true) ∧ Below w.heap.size w w' := by
  have h1I : ¬ (100 : Int) < (n : Int) := by omega
  have HK := Lib.hid (few_any (w := w) k hk)
  have hm := fewN_le k
  generalize fewN k = m at *
  have hf : Wd m w (.slice A n c) (bitAt fs) := ⟨A, n, c, fs, rfl, rf, by rw [← rd_len rf]; omega, fun _ _ => rfl⟩
  have hT := Below.refl w.heap.size w
  have HF0 := Lib.hid hf
  clear rf
  generalize bitAt fs = p at *
  have hd : (m = 0 ∧ (Told m p false true true false ∨ Told m p true true false true)) ∨ (0 < m ∧ ((Told m p false true true false ∨ Told m p true true false true) ∨ Told m p false false false false)) := by
    rcases Nat.eq_zero_or_pos m with e | e
    · refine .inl ⟨e, ?_⟩
      rcases told_cases m p with h | ⟨h, _⟩
      · exact h
      · omega
    · refine .inr ⟨e, ?_⟩
      rcases told_cases m p with h | ⟨_, h⟩
      · exact .inl h
      · exact .inr h
  rcases hd with ⟨h0, hd⟩ | ⟨h0, hd⟩
  · have h0I : ((m : Int) == 0) = true := by subst h0; rfl
    clear h0
    rcases hd with ⟨e1, e2, e3⟩ | ⟨e1, e2, e3⟩
    · have E2 := Lib.hid e2
      have E3 := Lib.hid e3
      have E1 := Lib.hid e1
      clear e1 e2 e3
      go_enter Try.func8, Try.ntmps8
      go_wp2_with (go_at_call 16; refine HK.out.mono ?_; rintro e w' ⟨rfl, rfl⟩)
      refine (w_const hm hf _ _ E1.out).mono ?_
      rintro e w1 ⟨rfl, hb⟩
      replace hf := hf.below hb
      replace hT := bthen hT hb
      clear hb
      go_wp2_with fail
      refine (w_no hm).mono ?_
      rintro e w2 ⟨v1, rfl, hb, h1⟩
      replace hf := hf.below hb
      replace hT := bthen hT hb
      clear hb
      go_wp2_with fail
      refine (w_same hm hf h1 _ E2.out).mono ?_
      rintro e w3 ⟨rfl, hb⟩
      replace hf := hf.below hb
      replace h1 := h1.below hb
      replace hT := bthen hT hb
      clear hb
      clear h1
      go_wp2_with fail
      refine (w_yes hm).mono ?_
      rintro e w4 ⟨v1, rfl, hb, h1⟩
      replace hf := hf.below hb
      replace hT := bthen hT hb
      clear hb
      go_wp2_with fail
      refine (w_same hm hf h1 _ E3.out).mono ?_
      rintro e w5 ⟨rfl, hb⟩
      replace hf := hf.below hb
      replace h1 := h1.below hb
      replace hT := bthen hT hb
      clear hb
      clear h1
      go_wp2_with fail
      refine (awake28 _).mono ?_
      rintro e w6 ⟨rfl, hb⟩
      replace hf := hf.below hb
      replace hT := bthen hT hb
      clear hb
      go_wp2
      go_ret
      exact ⟨rfl, hT⟩
    · have E2 := Lib.hid e2
      have E3 := Lib.hid e3
      have E1 := Lib.hid e1
      clear e1 e2 e3
      go_enter Try.func8, Try.ntmps8
      go_wp2_with (go_at_call 16; refine HK.out.mono ?_; rintro e w' ⟨rfl, rfl⟩)
      refine (w_const hm hf _ _ E1.out).mono ?_
      rintro e w1 ⟨rfl, hb⟩
      replace hf := hf.below hb
      replace hT := bthen hT hb
      clear hb
      go_wp2_with fail
      refine (w_no hm).mono ?_
      rintro e w2 ⟨v1, rfl, hb, h1⟩
      replace hf := hf.below hb
      replace hT := bthen hT hb
      clear hb
      go_wp2_with fail
      refine (w_same hm hf h1 _ E2.out).mono ?_
      rintro e w3 ⟨rfl, hb⟩
      replace hf := hf.below hb
      replace h1 := h1.below hb
      replace hT := bthen hT hb
      clear hb
      clear h1
      go_wp2_with fail
      refine (w_yes hm).mono ?_
      rintro e w4 ⟨v1, rfl, hb, h1⟩
      replace hf := hf.below hb
      replace hT := bthen hT hb
      clear hb
      go_wp2_with fail
      refine (w_same hm hf h1 _ E3.out).mono ?_
      rintro e w5 ⟨rfl, hb⟩
      replace hf := hf.below hb
      replace h1 := h1.below hb
      replace hT := bthen hT hb
      clear hb
      clear h1
      go_wp2_with fail
      refine (w_yes hm).mono ?_
      rintro e w6 ⟨v1, rfl, hb, h1⟩
      replace hf := hf.below hb
      replace hT := bthen hT hb
      clear hb
      go_wp2_with fail
      refine (w_same hm hf h1 _ E3.out).mono ?_
      rintro e w7 ⟨rfl, hb⟩
      replace hf := hf.below hb
      replace h1 := h1.below hb
      replace hT := bthen hT hb
      clear hb
      clear h1
      go_wp2_with fail
      refine (awake28 _).mono ?_
      rintro e w8 ⟨rfl, hb⟩
      replace hf := hf.below hb
      replace hT := bthen hT hb
      clear hb
      go_wp2
      go_ret
      exact ⟨rfl, hT⟩
  · have h0I : ((m : Int) == 0) = false := by rw [beq_eq_false_iff_ne]; omega
    have hmI : (0 : Int) < (m : Int) := by omega
    rcases hd with (⟨e1, e2, e3⟩ | ⟨e1, e2, e3⟩) | ⟨e1, e2, e3⟩
    · have E2 := Lib.hid e2
      have E3 := Lib.hid e3
      have E1 := Lib.hid e1
      clear e1 e2 e3
      go_enter Try.func8, Try.ntmps8
      go_wp2_with (go_at_call 16; refine HK.out.mono ?_; rintro e w' ⟨rfl, rfl⟩)
      refine (w_const hm hf _ _ E1.out).mono ?_
      rintro e w1 ⟨rfl, hb⟩
      replace hf := hf.below hb
      replace hT := bthen hT hb
      clear hb
      go_wp2_with fail
      refine (w_no hm).mono ?_
      rintro e w2 ⟨v1, rfl, hb, h1⟩
      replace hf := hf.below hb
      replace hT := bthen hT hb
      clear hb
      go_wp2_with fail
      refine (w_same hm hf h1 _ E2.out).mono ?_
      rintro e w3 ⟨rfl, hb⟩
      replace hf := hf.below hb
      replace h1 := h1.below hb
      replace hT := bthen hT hb
      clear hb
      clear h1
      go_wp2_with fail
      refine (w_yes hm).mono ?_
      rintro e w4 ⟨v1, rfl, hb, h1⟩
      replace hf := hf.below hb
      replace hT := bthen hT hb
      clear hb
      go_wp2_with fail
      refine (w_same hm hf h1 _ E3.out).mono ?_
      rintro e w5 ⟨rfl, hb⟩
      replace hf := hf.below hb
      replace h1 := h1.below hb
      replace hT := bthen hT hb
      clear hb
      clear h1
      obtain ⟨a, ha⟩ : ∃ a, a = j % m := ⟨_, rfl⟩
      have hap : a < m := by rw [ha]; exact Nat.mod_lt _ (by omega)
      have haI : ((a : Nat) : Int) = (j : Int) % (m : Int) := by rw [ha]; push_cast; rfl
      have HAI := Lib.hid haI
      have hmk := makeR m (by omega)
      clear ha haI
      go_upto_region 10 with fail
      go_cut [11, 12] (fun sy sa wx => ∃ gy ga : Nat, sy = .slice (some ⟨gy, 0, none⟩) m m ∧ sa = .slice (some ⟨ga, 0, none⟩) m m ∧ gy ≠ ga ∧ w.heap.size ≤ gy ∧ w.heap.size ≤ ga ∧ Below w.heap.size w wx ∧ Blk wx gy 22 (zeros (.slice none 0 0) m) ∧ Blk wx ga 22 (zeros (.slice none 0 0) m))
      case first =>
        go_region
        all_goals
          go_wp2_with fail
          go_meet
          obtain ⟨t1, t2, t3⟩ := two_rows w w5 22 (zeros (.slice none 0 0) m) hT
          have t0 := hT.size
          first
          | exact ⟨w5.heap.size, w5.heap.size + 1, rfl, rfl, by omega, t0, by omega, t1.drew, t2, t3⟩
          | exact ⟨w5.heap.size + 1, w5.heap.size, rfl, rfl, by omega, by omega, t0, t1.drew, t3, t2⟩
      case rest =>
        obtain ⟨gy, ga, rfl, rfl, hne, hgy, hga, hb2, hy, ha⟩ := hcut
        rw [← HAI.out]
        clear hT hf
        go_wp2_with fail
        go_loopw [83] (fun j wr => ∃ k : Nat, k ≤ m ∧ j = .int .i64 k ∧ Below w.heap.size w wr ∧ ∃ F, Sat F wr ∧ RowsG m F wr gy m (atQ k) ∧ RowsG m F wr ga m (atQ k)) (fun j _ => m - (intOf j).toNat)
        case atStart =>
          rename_i wx _ _ _
          exact ⟨0, Nat.zero_le _, rfl, hb2, but2 _ gy ga, sat_but2 _ _ _, (RowsG.made _ _ _ _ hy (by simp [but2])).as fun i _ => by funext x; simp [atQ], (RowsG.made _ _ _ _ ha (by simp [but2])).as fun i _ => by funext x; simp [atQ]⟩
        case round =>
          obtain ⟨k, hkm, rfl, hbr, F, hF, hY, hA⟩ := hrel
          by_cases hlt : k < m
          · have hkI : (k : Int) < (m : Int) := by omega
            go_wp2_with fail
            refine (q_atom hm k hlt).mono ?_
            rintro e x1 ⟨A1, n1, c1, g1, o1, rfl, hb1, hg1, hz1, hq1⟩
            have hF1 := (hF.below hb1).put hz1
            have hY1 := hY.fresh (o := o1) hF hb1 hg1
            have hA1 := hA.fresh (o := o1) hF hb1 hg1
            have hx1 := hq1 F
            have hbr1 := bthen hbr hb1
            clear hF hY hA hz1 hq1 hb1 hg1 hbr
            generalize F.put g1 o1 = F1 at *
            go_wp2_with fail
            refine (q_atom hm k hlt).mono ?_
            rintro e x2 ⟨A2, n2, c2, g2, o2, rfl, hb2', hg2, hz2, hq2⟩
            have hF2 := (hF1.below hb2').put hz2
            have hY2 := hY1.fresh (o := o2) hF1 hb2' hg2
            have hA2 := hA1.fresh (o := o2) hF1 hb2' hg2
            have hx1' : WdF m (F1.put g2 o2) _ _ := hx1.put (hF1.none_ hg2)
            have hx2 := hq2 F1
            have hbr2 := bthen hbr1 hb2'
            clear hF1 hY1 hA1 hx1 hz2 hq2 hb2' hg2 hbr1
            generalize F1.put g2 o2 = F2 at *
            obtain ⟨⟨oy, hcy⟩, hfy⟩ := hY2.cell hlt
            obtain ⟨⟨oa, hca⟩, hfa⟩ := hA2.cell hlt
            have hca' : ∀ v : Value, (x2.setCell ⟨gy, k, none⟩ v).cell? ⟨ga, k, none⟩ = some oa := fun v => by
              rw [World.cell?_setCell_other _ _ _ _ (fun e => hne (by injection e))]; exact hca
            have hfa' : ∀ v : Value, (x2.setCell ⟨gy, k, none⟩ v).frozen? ⟨ga, k, none⟩ = false := fun v => by
              rw [World.frozen?_setCell]; exact hfa
            go_wp2
            go_roundw
            case rel => exact ⟨k + 1, by omega, by go_num, (hbr2.setCell hgy _).setCell hga _, F2, (hA2.far (Ne.symm hne) _).sat (hY2.sat hF2 k _) k _, ((hY2.set_ k hx1').far hne _).as (fun i _ => by
              funext x
              unfold atQ
              by_cases h : i = k
              · subst h; simp
              · have : i < k ↔ i < k + 1 := by omega
                simp [h, this]), ((hA2.far (Ne.symm hne) _).set_ k hx2).as (fun i _ => by
              funext x
              unfold atQ
              by_cases h : i = k
              · subst h; simp
              · have : i < k ↔ i < k + 1 := by omega
                simp [h, this])⟩
            case measure => simp [intOf]; omega
          · obtain rfl : k = m := by omega
            have hapI : (a : Int) < (k : Int) := by omega
            go_wp2_with fail
            refine (q_yes hm).mono ?_
            rintro e x1 ⟨A1, n1, c1, g1, o1, rfl, hb1, hg1, hz1, hq1⟩
            have hF1 := (hF.below hb1).put hz1
            have hY1 := hY.fresh (o := o1) hF hb1 hg1
            have hA1 := hA.fresh (o := o1) hF hb1 hg1
            have hx1 := hq1 F
            have hbr1 := bthen hbr hb1
            clear hF hY hA hz1 hq1 hb1 hg1 hbr
            generalize F.put g1 o1 = F1 at *
            go_wp2_with fail
            refine (q_no hm).mono ?_
            rintro e x2 ⟨A2, n2, c2, g2, o2, rfl, hb2', hg2, hz2, hq2⟩
            have hF2 := (hF1.below hb2').put hz2
            have hY2 := hY1.fresh (o := o2) hF1 hb2' hg2
            have hA2 := hA1.fresh (o := o2) hF1 hb2' hg2
            have hx1' : WdF k (F1.put g2 o2) _ _ := hx1.put (hF1.none_ hg2)
            have hx2 := hq2 F1
            have hbr2 := bthen hbr1 hb2'
            clear hF1 hY1 hA1 hx1 hz2 hq2 hb2' hg2 hbr1
            generalize F1.put g2 o2 = F2 at *
            obtain ⟨⟨oy, hcy⟩, hfy⟩ := hY2.cell hap
            obtain ⟨⟨oa, hca⟩, hfa⟩ := hA2.cell hap
            have hca' : ∀ v : Value, (x2.setCell ⟨gy, a, none⟩ v).cell? ⟨ga, a, none⟩ = some oa := fun v => by
              rw [World.cell?_setCell_other _ _ _ _ (fun e => hne (by injection e))]; exact hca
            have hfa' : ∀ v : Value, (x2.setCell ⟨gy, a, none⟩ v).frozen? ⟨ga, a, none⟩ = false := fun v => by
              rw [World.frozen?_setCell]; exact hfa
            go_wp2_with fail
            have hT := (hbr2.setCell (p := ⟨gy, a, none⟩) hgy (.slice A1 n1 c1)).setCell (p := ⟨ga, a, none⟩) hga (.slice A2 n2 c2)
            have hSF := (hA2.far (a := ⟨gy, a, none⟩) (Ne.symm hne) (.slice A1 n1 c1)).sat (hY2.sat hF2 a (.slice A1 n1 c1)) a (.slice A2 n2 c2)
            have hyes := (((hY2.set_ a hx1').far (a := ⟨ga, a, none⟩) hne (.slice A2 n2 c2)).as (q' := setQ true a) fun i hi => by
              funext x
              unfold setQ atQ
              by_cases h : i = a <;> simp [h, hi]).done hSF (by omega) k
            have hno := (((hA2.far (a := ⟨gy, a, none⟩) (Ne.symm hne) (.slice A1 n1 c1)).set_ a hx2).as (q' := setQ false a) fun i hi => by
              funext x
              unfold setQ atQ
              by_cases h : i = a <;> simp [h, hi]).done hSF (by omega) k
            have hf := HF0.out.below hT
            clear hF2 hY2 hA2 hx1' hx2 hbr2 hcy hfy hca hfa hca' hfa' hSF
            refine (w_atom hm a hap).mono ?_
            rintro e w1 ⟨vx, rfl, hb, hx⟩
            replace hf := hf.below hb
            replace hyes := hyes.below hb
            replace hno := hno.below hb
            replace hT := bthen hT hb
            clear hb
            go_wp2_with fail
            refine (w_put hm hf hyes).mono ?_
            rintro e w2 ⟨v1, rfl, hb, h1⟩
            replace hf := hf.below hb
            replace hyes := hyes.below hb
            replace hno := hno.below hb
            replace hx := hx.below hb
            replace hT := bthen hT hb
            clear hb
            go_wp2_with fail
            refine (w_and hm hx h1).mono ?_
            rintro e w3 ⟨v2, rfl, hb, h2⟩
            replace hf := hf.below hb
            replace hyes := hyes.below hb
            replace hno := hno.below hb
            replace hx := hx.below hb
            replace h1 := h1.below hb
            replace hT := bthen hT hb
            clear hb
            go_wp2_with fail
            refine (w_not hm hx).mono ?_
            rintro e w4 ⟨v3, rfl, hb, h3⟩
            replace hf := hf.below hb
            replace hyes := hyes.below hb
            replace hno := hno.below hb
            replace hx := hx.below hb
            replace h1 := h1.below hb
            replace h2 := h2.below hb
            replace hT := bthen hT hb
            clear hb
            go_wp2_with fail
            refine (w_put hm hf hno).mono ?_
            rintro e w5 ⟨v4, rfl, hb, h4⟩
            replace hf := hf.below hb
            replace hyes := hyes.below hb
            replace hno := hno.below hb
            replace hx := hx.below hb
            replace h1 := h1.below hb
            replace h2 := h2.below hb
            replace h3 := h3.below hb
            replace hT := bthen hT hb
            clear hb
            go_wp2_with fail
            refine (w_and hm h3 h4).mono ?_
            rintro e w6 ⟨v5, rfl, hb, h5⟩
            replace hf := hf.below hb
            replace hyes := hyes.below hb
            replace hno := hno.below hb
            replace hx := hx.below hb
            replace h1 := h1.below hb
            replace h2 := h2.below hb
            replace h3 := h3.below hb
            replace h4 := h4.below hb
            replace hT := bthen hT hb
            clear hb
            go_wp2_with fail
            refine (w_or hm h2 h5).mono ?_
            rintro e w7 ⟨v6, rfl, hb, h6⟩
            replace hf := hf.below hb
            replace hyes := hyes.below hb
            replace hno := hno.below hb
            replace hx := hx.below hb
            replace h1 := h1.below hb
            replace h2 := h2.below hb
            replace h3 := h3.below hb
            replace h4 := h4.below hb
            replace h5 := h5.below hb
            replace hT := bthen hT hb
            clear hb
            go_wp2_with fail
            refine (w_const hm hx false false (atom_two hap)).mono ?_
            rintro e w8 ⟨rfl, hb⟩
            replace hf := hf.below hb
            replace hyes := hyes.below hb
            replace hno := hno.below hb
            replace hx := hx.below hb
            replace h1 := h1.below hb
            replace h2 := h2.below hb
            replace h3 := h3.below hb
            replace h4 := h4.below hb
            replace h5 := h5.below hb
            replace h6 := h6.below hb
            replace hT := bthen hT hb
            clear hb
            go_wp2_with fail
            refine (w_sameT hm h6 hf (fun x hx => by
              cases hb : x.testBit a with
              | true => rw [set_id hm hx hb]; cases p x <;> simp
              | false => rw [set_id hm hx hb]; cases p x <;> simp)).mono ?_
            rintro e w9 ⟨rfl, hb⟩
            replace hf := hf.below hb
            replace hyes := hyes.below hb
            replace hno := hno.below hb
            replace hx := hx.below hb
            replace h1 := h1.below hb
            replace h2 := h2.below hb
            replace h3 := h3.below hb
            replace h4 := h4.below hb
            replace h5 := h5.below hb
            replace h6 := h6.below hb
            replace hT := bthen hT hb
            clear hb
            go_wp2_with fail
            refine (awake28 _).mono ?_
            rintro e w10 ⟨rfl, hb⟩
            replace hf := hf.below hb
            replace hyes := hyes.below hb
            replace hno := hno.below hb
            replace hx := hx.below hb
            replace h1 := h1.below hb
            replace h2 := h2.below hb
            replace h3 := h3.below hb
            replace h4 := h4.below hb
            replace h5 := h5.below hb
            replace h6 := h6.below hb
            replace hT := bthen hT hb
            clear hb
            go_wp2
            go_ret
            exact ⟨rfl, hT⟩
    · have E2 := Lib.hid e2
      have E3 := Lib.hid e3
      have E1 := Lib.hid e1
      clear e1 e2 e3
      go_enter Try.func8, Try.ntmps8
      go_wp2_with (go_at_call 16; refine HK.out.mono ?_; rintro e w' ⟨rfl, rfl⟩)
      refine (w_const hm hf _ _ E1.out).mono ?_
      rintro e w1 ⟨rfl, hb⟩
      replace hf := hf.below hb
      replace hT := bthen hT hb
      clear hb
      go_wp2_with fail
      refine (w_no hm).mono ?_
      rintro e w2 ⟨v1, rfl, hb, h1⟩
      replace hf := hf.below hb
      replace hT := bthen hT hb
      clear hb
      go_wp2_with fail
      refine (w_same hm hf h1 _ E2.out).mono ?_
      rintro e w3 ⟨rfl, hb⟩
      replace hf := hf.below hb
      replace h1 := h1.below hb
      replace hT := bthen hT hb
      clear hb
      clear h1
      go_wp2_with fail
      refine (w_yes hm).mono ?_
      rintro e w4 ⟨v1, rfl, hb, h1⟩
      replace hf := hf.below hb
      replace hT := bthen hT hb
      clear hb
      go_wp2_with fail
      refine (w_same hm hf h1 _ E3.out).mono ?_
      rintro e w5 ⟨rfl, hb⟩
      replace hf := hf.below hb
      replace h1 := h1.below hb
      replace hT := bthen hT hb
      clear hb
      clear h1
      go_wp2_with fail
      refine (w_yes hm).mono ?_
      rintro e w6 ⟨v1, rfl, hb, h1⟩
      replace hf := hf.below hb
      replace hT := bthen hT hb
      clear hb
      go_wp2_with fail
      refine (w_same hm hf h1 _ E3.out).mono ?_
      rintro e w7 ⟨rfl, hb⟩
      replace hf := hf.below hb
      replace h1 := h1.below hb
      replace hT := bthen hT hb
      clear hb
      clear h1
      obtain ⟨a, ha⟩ : ∃ a, a = j % m := ⟨_, rfl⟩
      have hap : a < m := by rw [ha]; exact Nat.mod_lt _ (by omega)
      have haI : ((a : Nat) : Int) = (j : Int) % (m : Int) := by rw [ha]; push_cast; rfl
      have HAI := Lib.hid haI
      have hmk := makeR m (by omega)
      clear ha haI
      go_upto_region 10 with fail
      go_cut [11, 12] (fun sy sa wx => ∃ gy ga : Nat, sy = .slice (some ⟨gy, 0, none⟩) m m ∧ sa = .slice (some ⟨ga, 0, none⟩) m m ∧ gy ≠ ga ∧ w.heap.size ≤ gy ∧ w.heap.size ≤ ga ∧ Below w.heap.size w wx ∧ Blk wx gy 22 (zeros (.slice none 0 0) m) ∧ Blk wx ga 22 (zeros (.slice none 0 0) m))
      case first =>
        go_region
        all_goals
          go_wp2_with fail
          go_meet
          obtain ⟨t1, t2, t3⟩ := two_rows w w7 22 (zeros (.slice none 0 0) m) hT
          have t0 := hT.size
          first
          | exact ⟨w7.heap.size, w7.heap.size + 1, rfl, rfl, by omega, t0, by omega, t1.drew, t2, t3⟩
          | exact ⟨w7.heap.size + 1, w7.heap.size, rfl, rfl, by omega, by omega, t0, t1.drew, t3, t2⟩
      case rest =>
        obtain ⟨gy, ga, rfl, rfl, hne, hgy, hga, hb2, hy, ha⟩ := hcut
        rw [← HAI.out]
        clear hT hf
        go_wp2_with fail
        go_loopw [83] (fun j wr => ∃ k : Nat, k ≤ m ∧ j = .int .i64 k ∧ Below w.heap.size w wr ∧ ∃ F, Sat F wr ∧ RowsG m F wr gy m (atQ k) ∧ RowsG m F wr ga m (atQ k)) (fun j _ => m - (intOf j).toNat)
        case atStart =>
          rename_i wx _ _ _
          exact ⟨0, Nat.zero_le _, rfl, hb2, but2 _ gy ga, sat_but2 _ _ _, (RowsG.made _ _ _ _ hy (by simp [but2])).as fun i _ => by funext x; simp [atQ], (RowsG.made _ _ _ _ ha (by simp [but2])).as fun i _ => by funext x; simp [atQ]⟩
        case round =>
          obtain ⟨k, hkm, rfl, hbr, F, hF, hY, hA⟩ := hrel
          by_cases hlt : k < m
          · have hkI : (k : Int) < (m : Int) := by omega
            go_wp2_with fail
            refine (q_atom hm k hlt).mono ?_
            rintro e x1 ⟨A1, n1, c1, g1, o1, rfl, hb1, hg1, hz1, hq1⟩
            have hF1 := (hF.below hb1).put hz1
            have hY1 := hY.fresh (o := o1) hF hb1 hg1
            have hA1 := hA.fresh (o := o1) hF hb1 hg1
            have hx1 := hq1 F
            have hbr1 := bthen hbr hb1
            clear hF hY hA hz1 hq1 hb1 hg1 hbr
            generalize F.put g1 o1 = F1 at *
            go_wp2_with fail
            refine (q_atom hm k hlt).mono ?_
            rintro e x2 ⟨A2, n2, c2, g2, o2, rfl, hb2', hg2, hz2, hq2⟩
            have hF2 := (hF1.below hb2').put hz2
            have hY2 := hY1.fresh (o := o2) hF1 hb2' hg2
            have hA2 := hA1.fresh (o := o2) hF1 hb2' hg2
            have hx1' : WdF m (F1.put g2 o2) _ _ := hx1.put (hF1.none_ hg2)
            have hx2 := hq2 F1
            have hbr2 := bthen hbr1 hb2'
            clear hF1 hY1 hA1 hx1 hz2 hq2 hb2' hg2 hbr1
            generalize F1.put g2 o2 = F2 at *
            obtain ⟨⟨oy, hcy⟩, hfy⟩ := hY2.cell hlt
            obtain ⟨⟨oa, hca⟩, hfa⟩ := hA2.cell hlt
            have hca' : ∀ v : Value, (x2.setCell ⟨gy, k, none⟩ v).cell? ⟨ga, k, none⟩ = some oa := fun v => by
              rw [World.cell?_setCell_other _ _ _ _ (fun e => hne (by injection e))]; exact hca
            have hfa' : ∀ v : Value, (x2.setCell ⟨gy, k, none⟩ v).frozen? ⟨ga, k, none⟩ = false := fun v => by
              rw [World.frozen?_setCell]; exact hfa
            go_wp2
            go_roundw
            case rel => exact ⟨k + 1, by omega, by go_num, (hbr2.setCell hgy _).setCell hga _, F2, (hA2.far (Ne.symm hne) _).sat (hY2.sat hF2 k _) k _, ((hY2.set_ k hx1').far hne _).as (fun i _ => by
              funext x
              unfold atQ
              by_cases h : i = k
              · subst h; simp
              · have : i < k ↔ i < k + 1 := by omega
                simp [h, this]), ((hA2.far (Ne.symm hne) _).set_ k hx2).as (fun i _ => by
              funext x
              unfold atQ
              by_cases h : i = k
              · subst h; simp
              · have : i < k ↔ i < k + 1 := by omega
                simp [h, this])⟩
            case measure => simp [intOf]; omega
          · obtain rfl : k = m := by omega
            have hapI : (a : Int) < (k : Int) := by omega
            go_wp2_with fail
            refine (q_yes hm).mono ?_
            rintro e x1 ⟨A1, n1, c1, g1, o1, rfl, hb1, hg1, hz1, hq1⟩
            have hF1 := (hF.below hb1).put hz1
            have hY1 := hY.fresh (o := o1) hF hb1 hg1
            have hA1 := hA.fresh (o := o1) hF hb1 hg1
            have hx1 := hq1 F
            have hbr1 := bthen hbr hb1
            clear hF hY hA hz1 hq1 hb1 hg1 hbr
            generalize F.put g1 o1 = F1 at *
            go_wp2_with fail
            refine (q_no hm).mono ?_
            rintro e x2 ⟨A2, n2, c2, g2, o2, rfl, hb2', hg2, hz2, hq2⟩
            have hF2 := (hF1.below hb2').put hz2
            have hY2 := hY1.fresh (o := o2) hF1 hb2' hg2
            have hA2 := hA1.fresh (o := o2) hF1 hb2' hg2
            have hx1' : WdF k (F1.put g2 o2) _ _ := hx1.put (hF1.none_ hg2)
            have hx2 := hq2 F1
            have hbr2 := bthen hbr1 hb2'
            clear hF1 hY1 hA1 hx1 hz2 hq2 hb2' hg2 hbr1
            generalize F1.put g2 o2 = F2 at *
            obtain ⟨⟨oy, hcy⟩, hfy⟩ := hY2.cell hap
            obtain ⟨⟨oa, hca⟩, hfa⟩ := hA2.cell hap
            have hca' : ∀ v : Value, (x2.setCell ⟨gy, a, none⟩ v).cell? ⟨ga, a, none⟩ = some oa := fun v => by
              rw [World.cell?_setCell_other _ _ _ _ (fun e => hne (by injection e))]; exact hca
            have hfa' : ∀ v : Value, (x2.setCell ⟨gy, a, none⟩ v).frozen? ⟨ga, a, none⟩ = false := fun v => by
              rw [World.frozen?_setCell]; exact hfa
            go_wp2_with fail
            have hT := (hbr2.setCell (p := ⟨gy, a, none⟩) hgy (.slice A1 n1 c1)).setCell (p := ⟨ga, a, none⟩) hga (.slice A2 n2 c2)
            have hSF := (hA2.far (a := ⟨gy, a, none⟩) (Ne.symm hne) (.slice A1 n1 c1)).sat (hY2.sat hF2 a (.slice A1 n1 c1)) a (.slice A2 n2 c2)
            have hyes := (((hY2.set_ a hx1').far (a := ⟨ga, a, none⟩) hne (.slice A2 n2 c2)).as (q' := setQ true a) fun i hi => by
              funext x
              unfold setQ atQ
              by_cases h : i = a <;> simp [h, hi]).done hSF (by omega) k
            have hno := (((hA2.far (a := ⟨gy, a, none⟩) (Ne.symm hne) (.slice A1 n1 c1)).set_ a hx2).as (q' := setQ false a) fun i hi => by
              funext x
              unfold setQ atQ
              by_cases h : i = a <;> simp [h, hi]).done hSF (by omega) k
            have hf := HF0.out.below hT
            clear hF2 hY2 hA2 hx1' hx2 hbr2 hcy hfy hca hfa hca' hfa' hSF
            refine (w_atom hm a hap).mono ?_
            rintro e w1 ⟨vx, rfl, hb, hx⟩
            replace hf := hf.below hb
            replace hyes := hyes.below hb
            replace hno := hno.below hb
            replace hT := bthen hT hb
            clear hb
            go_wp2_with fail
            refine (w_put hm hf hyes).mono ?_
            rintro e w2 ⟨v1, rfl, hb, h1⟩
            replace hf := hf.below hb
            replace hyes := hyes.below hb
            replace hno := hno.below hb
            replace hx := hx.below hb
            replace hT := bthen hT hb
            clear hb
            go_wp2_with fail
            refine (w_and hm hx h1).mono ?_
            rintro e w3 ⟨v2, rfl, hb, h2⟩
            replace hf := hf.below hb
            replace hyes := hyes.below hb
            replace hno := hno.below hb
            replace hx := hx.below hb
            replace h1 := h1.below hb
            replace hT := bthen hT hb
            clear hb
            go_wp2_with fail
            refine (w_not hm hx).mono ?_
            rintro e w4 ⟨v3, rfl, hb, h3⟩
            replace hf := hf.below hb
            replace hyes := hyes.below hb
            replace hno := hno.below hb
            replace hx := hx.below hb
            replace h1 := h1.below hb
            replace h2 := h2.below hb
            replace hT := bthen hT hb
            clear hb
            go_wp2_with fail
            refine (w_put hm hf hno).mono ?_
            rintro e w5 ⟨v4, rfl, hb, h4⟩
            replace hf := hf.below hb
            replace hyes := hyes.below hb
            replace hno := hno.below hb
            replace hx := hx.below hb
            replace h1 := h1.below hb
            replace h2 := h2.below hb
            replace h3 := h3.below hb
            replace hT := bthen hT hb
            clear hb
            go_wp2_with fail
            refine (w_and hm h3 h4).mono ?_
            rintro e w6 ⟨v5, rfl, hb, h5⟩
            replace hf := hf.below hb
            replace hyes := hyes.below hb
            replace hno := hno.below hb
            replace hx := hx.below hb
            replace h1 := h1.below hb
            replace h2 := h2.below hb
            replace h3 := h3.below hb
            replace h4 := h4.below hb
            replace hT := bthen hT hb
            clear hb
            go_wp2_with fail
            refine (w_or hm h2 h5).mono ?_
            rintro e w7 ⟨v6, rfl, hb, h6⟩
            replace hf := hf.below hb
            replace hyes := hyes.below hb
            replace hno := hno.below hb
            replace hx := hx.below hb
            replace h1 := h1.below hb
            replace h2 := h2.below hb
            replace h3 := h3.below hb
            replace h4 := h4.below hb
            replace h5 := h5.below hb
            replace hT := bthen hT hb
            clear hb
            go_wp2_with fail
            refine (w_const hm hx false false (atom_two hap)).mono ?_
            rintro e w8 ⟨rfl, hb⟩
            replace hf := hf.below hb
            replace hyes := hyes.below hb
            replace hno := hno.below hb
            replace hx := hx.below hb
            replace h1 := h1.below hb
            replace h2 := h2.below hb
            replace h3 := h3.below hb
            replace h4 := h4.below hb
            replace h5 := h5.below hb
            replace h6 := h6.below hb
            replace hT := bthen hT hb
            clear hb
            go_wp2_with fail
            refine (w_sameT hm h6 hf (fun x hx => by
              cases hb : x.testBit a with
              | true => rw [set_id hm hx hb]; cases p x <;> simp
              | false => rw [set_id hm hx hb]; cases p x <;> simp)).mono ?_
            rintro e w9 ⟨rfl, hb⟩
            replace hf := hf.below hb
            replace hyes := hyes.below hb
            replace hno := hno.below hb
            replace hx := hx.below hb
            replace h1 := h1.below hb
            replace h2 := h2.below hb
            replace h3 := h3.below hb
            replace h4 := h4.below hb
            replace h5 := h5.below hb
            replace h6 := h6.below hb
            replace hT := bthen hT hb
            clear hb
            go_wp2_with fail
            refine (awake28 _).mono ?_
            rintro e w10 ⟨rfl, hb⟩
            replace hf := hf.below hb
            replace hyes := hyes.below hb
            replace hno := hno.below hb
            replace hx := hx.below hb
            replace h1 := h1.below hb
            replace h2 := h2.below hb
            replace h3 := h3.below hb
            replace h4 := h4.below hb
            replace h5 := h5.below hb
            replace h6 := h6.below hb
            replace hT := bthen hT hb
            clear hb
            go_wp2
            go_ret
            exact ⟨rfl, hT⟩
    · have E2 := Lib.hid e2
      have E3 := Lib.hid e3
      have E1 := Lib.hid e1
      clear e1 e2 e3
      go_enter Try.func8, Try.ntmps8
      go_wp2_with (go_at_call 16; refine HK.out.mono ?_; rintro e w' ⟨rfl, rfl⟩)
      refine (w_const hm hf _ _ E1.out).mono ?_
      rintro e w1 ⟨rfl, hb⟩
      replace hf := hf.below hb
      replace hT := bthen hT hb
      clear hb
      go_wp2_with fail
      refine (w_no hm).mono ?_
      rintro e w2 ⟨v1, rfl, hb, h1⟩
      replace hf := hf.below hb
      replace hT := bthen hT hb
      clear hb
      go_wp2_with fail
      refine (w_same hm hf h1 _ E2.out).mono ?_
      rintro e w3 ⟨rfl, hb⟩
      replace hf := hf.below hb
      replace h1 := h1.below hb
      replace hT := bthen hT hb
      clear hb
      clear h1
      go_wp2_with fail
      refine (w_yes hm).mono ?_
      rintro e w4 ⟨v1, rfl, hb, h1⟩
      replace hf := hf.below hb
      replace hT := bthen hT hb
      clear hb
      go_wp2_with fail
      refine (w_same hm hf h1 _ E3.out).mono ?_
      rintro e w5 ⟨rfl, hb⟩
      replace hf := hf.below hb
      replace h1 := h1.below hb
      replace hT := bthen hT hb
      clear hb
      clear h1
      obtain ⟨a, ha⟩ : ∃ a, a = j % m := ⟨_, rfl⟩
      have hap : a < m := by rw [ha]; exact Nat.mod_lt _ (by omega)
      have haI : ((a : Nat) : Int) = (j : Int) % (m : Int) := by rw [ha]; push_cast; rfl
      have HAI := Lib.hid haI
      have hmk := makeR m (by omega)
      clear ha haI
      go_upto_region 10 with fail
      go_cut [11, 12] (fun sy sa wx => ∃ gy ga : Nat, sy = .slice (some ⟨gy, 0, none⟩) m m ∧ sa = .slice (some ⟨ga, 0, none⟩) m m ∧ gy ≠ ga ∧ w.heap.size ≤ gy ∧ w.heap.size ≤ ga ∧ Below w.heap.size w wx ∧ Blk wx gy 22 (zeros (.slice none 0 0) m) ∧ Blk wx ga 22 (zeros (.slice none 0 0) m))
      case first =>
        go_region
        all_goals
          go_wp2_with fail
          go_meet
          obtain ⟨t1, t2, t3⟩ := two_rows w w5 22 (zeros (.slice none 0 0) m) hT
          have t0 := hT.size
          first
          | exact ⟨w5.heap.size, w5.heap.size + 1, rfl, rfl, by omega, t0, by omega, t1.drew, t2, t3⟩
          | exact ⟨w5.heap.size + 1, w5.heap.size, rfl, rfl, by omega, by omega, t0, t1.drew, t3, t2⟩
      case rest =>
        obtain ⟨gy, ga, rfl, rfl, hne, hgy, hga, hb2, hy, ha⟩ := hcut
        rw [← HAI.out]
        clear hT hf
        go_wp2_with fail
        go_loopw [83] (fun j wr => ∃ k : Nat, k ≤ m ∧ j = .int .i64 k ∧ Below w.heap.size w wr ∧ ∃ F, Sat F wr ∧ RowsG m F wr gy m (atQ k) ∧ RowsG m F wr ga m (atQ k)) (fun j _ => m - (intOf j).toNat)
        case atStart =>
          rename_i wx _ _ _
          exact ⟨0, Nat.zero_le _, rfl, hb2, but2 _ gy ga, sat_but2 _ _ _, (RowsG.made _ _ _ _ hy (by simp [but2])).as fun i _ => by funext x; simp [atQ], (RowsG.made _ _ _ _ ha (by simp [but2])).as fun i _ => by funext x; simp [atQ]⟩
        case round =>
          obtain ⟨k, hkm, rfl, hbr, F, hF, hY, hA⟩ := hrel
          by_cases hlt : k < m
          · have hkI : (k : Int) < (m : Int) := by omega
            go_wp2_with fail
            refine (q_atom hm k hlt).mono ?_
            rintro e x1 ⟨A1, n1, c1, g1, o1, rfl, hb1, hg1, hz1, hq1⟩
            have hF1 := (hF.below hb1).put hz1
            have hY1 := hY.fresh (o := o1) hF hb1 hg1
            have hA1 := hA.fresh (o := o1) hF hb1 hg1
            have hx1 := hq1 F
            have hbr1 := bthen hbr hb1
            clear hF hY hA hz1 hq1 hb1 hg1 hbr
            generalize F.put g1 o1 = F1 at *
            go_wp2_with fail
            refine (q_atom hm k hlt).mono ?_
            rintro e x2 ⟨A2, n2, c2, g2, o2, rfl, hb2', hg2, hz2, hq2⟩
            have hF2 := (hF1.below hb2').put hz2
            have hY2 := hY1.fresh (o := o2) hF1 hb2' hg2
            have hA2 := hA1.fresh (o := o2) hF1 hb2' hg2
            have hx1' : WdF m (F1.put g2 o2) _ _ := hx1.put (hF1.none_ hg2)
            have hx2 := hq2 F1
            have hbr2 := bthen hbr1 hb2'
            clear hF1 hY1 hA1 hx1 hz2 hq2 hb2' hg2 hbr1
            generalize F1.put g2 o2 = F2 at *
            obtain ⟨⟨oy, hcy⟩, hfy⟩ := hY2.cell hlt
            obtain ⟨⟨oa, hca⟩, hfa⟩ := hA2.cell hlt
            have hca' : ∀ v : Value, (x2.setCell ⟨gy, k, none⟩ v).cell? ⟨ga, k, none⟩ = some oa := fun v => by
              rw [World.cell?_setCell_other _ _ _ _ (fun e => hne (by injection e))]; exact hca
            have hfa' : ∀ v : Value, (x2.setCell ⟨gy, k, none⟩ v).frozen? ⟨ga, k, none⟩ = false := fun v => by
              rw [World.frozen?_setCell]; exact hfa
            go_wp2
            go_roundw
            case rel => exact ⟨k + 1, by omega, by go_num, (hbr2.setCell hgy _).setCell hga _, F2, (hA2.far (Ne.symm hne) _).sat (hY2.sat hF2 k _) k _, ((hY2.set_ k hx1').far hne _).as (fun i _ => by
              funext x
              unfold atQ
              by_cases h : i = k
              · subst h; simp
              · have : i < k ↔ i < k + 1 := by omega
                simp [h, this]), ((hA2.far (Ne.symm hne) _).set_ k hx2).as (fun i _ => by
              funext x
              unfold atQ
              by_cases h : i = k
              · subst h; simp
              · have : i < k ↔ i < k + 1 := by omega
                simp [h, this])⟩
            case measure => simp [intOf]; omega
          · obtain rfl : k = m := by omega
            have hapI : (a : Int) < (k : Int) := by omega
            go_wp2_with fail
            refine (q_yes hm).mono ?_
            rintro e x1 ⟨A1, n1, c1, g1, o1, rfl, hb1, hg1, hz1, hq1⟩
            have hF1 := (hF.below hb1).put hz1
            have hY1 := hY.fresh (o := o1) hF hb1 hg1
            have hA1 := hA.fresh (o := o1) hF hb1 hg1
            have hx1 := hq1 F
            have hbr1 := bthen hbr hb1
            clear hF hY hA hz1 hq1 hb1 hg1 hbr
            generalize F.put g1 o1 = F1 at *
            go_wp2_with fail
            refine (q_no hm).mono ?_
            rintro e x2 ⟨A2, n2, c2, g2, o2, rfl, hb2', hg2, hz2, hq2⟩
            have hF2 := (hF1.below hb2').put hz2
            have hY2 := hY1.fresh (o := o2) hF1 hb2' hg2
            have hA2 := hA1.fresh (o := o2) hF1 hb2' hg2
            have hx1' : WdF k (F1.put g2 o2) _ _ := hx1.put (hF1.none_ hg2)
            have hx2 := hq2 F1
            have hbr2 := bthen hbr1 hb2'
            clear hF1 hY1 hA1 hx1 hz2 hq2 hb2' hg2 hbr1
            generalize F1.put g2 o2 = F2 at *
            obtain ⟨⟨oy, hcy⟩, hfy⟩ := hY2.cell hap
            obtain ⟨⟨oa, hca⟩, hfa⟩ := hA2.cell hap
            have hca' : ∀ v : Value, (x2.setCell ⟨gy, a, none⟩ v).cell? ⟨ga, a, none⟩ = some oa := fun v => by
              rw [World.cell?_setCell_other _ _ _ _ (fun e => hne (by injection e))]; exact hca
            have hfa' : ∀ v : Value, (x2.setCell ⟨gy, a, none⟩ v).frozen? ⟨ga, a, none⟩ = false := fun v => by
              rw [World.frozen?_setCell]; exact hfa
            go_wp2_with fail
            have hT := (hbr2.setCell (p := ⟨gy, a, none⟩) hgy (.slice A1 n1 c1)).setCell (p := ⟨ga, a, none⟩) hga (.slice A2 n2 c2)
            have hSF := (hA2.far (a := ⟨gy, a, none⟩) (Ne.symm hne) (.slice A1 n1 c1)).sat (hY2.sat hF2 a (.slice A1 n1 c1)) a (.slice A2 n2 c2)
            have hyes := (((hY2.set_ a hx1').far (a := ⟨ga, a, none⟩) hne (.slice A2 n2 c2)).as (q' := setQ true a) fun i hi => by
              funext x
              unfold setQ atQ
              by_cases h : i = a <;> simp [h, hi]).done hSF (by omega) k
            have hno := (((hA2.far (a := ⟨gy, a, none⟩) (Ne.symm hne) (.slice A1 n1 c1)).set_ a hx2).as (q' := setQ false a) fun i hi => by
              funext x
              unfold setQ atQ
              by_cases h : i = a <;> simp [h, hi]).done hSF (by omega) k
            have hf := HF0.out.below hT
            clear hF2 hY2 hA2 hx1' hx2 hbr2 hcy hfy hca hfa hca' hfa' hSF
            refine (w_atom hm a hap).mono ?_
            rintro e w1 ⟨vx, rfl, hb, hx⟩
            replace hf := hf.below hb
            replace hyes := hyes.below hb
            replace hno := hno.below hb
            replace hT := bthen hT hb
            clear hb
            go_wp2_with fail
            refine (w_put hm hf hyes).mono ?_
            rintro e w2 ⟨v1, rfl, hb, h1⟩
            replace hf := hf.below hb
            replace hyes := hyes.below hb
            replace hno := hno.below hb
            replace hx := hx.below hb
            replace hT := bthen hT hb
            clear hb
            go_wp2_with fail
            refine (w_and hm hx h1).mono ?_
            rintro e w3 ⟨v2, rfl, hb, h2⟩
            replace hf := hf.below hb
            replace hyes := hyes.below hb
            replace hno := hno.below hb
            replace hx := hx.below hb
            replace h1 := h1.below hb
            replace hT := bthen hT hb
            clear hb
            go_wp2_with fail
            refine (w_not hm hx).mono ?_
            rintro e w4 ⟨v3, rfl, hb, h3⟩
            replace hf := hf.below hb
            replace hyes := hyes.below hb
            replace hno := hno.below hb
            replace hx := hx.below hb
            replace h1 := h1.below hb
            replace h2 := h2.below hb
            replace hT := bthen hT hb
            clear hb
            go_wp2_with fail
            refine (w_put hm hf hno).mono ?_
            rintro e w5 ⟨v4, rfl, hb, h4⟩
            replace hf := hf.below hb
            replace hyes := hyes.below hb
            replace hno := hno.below hb
            replace hx := hx.below hb
            replace h1 := h1.below hb
            replace h2 := h2.below hb
            replace h3 := h3.below hb
            replace hT := bthen hT hb
            clear hb
            go_wp2_with fail
            refine (w_and hm h3 h4).mono ?_
            rintro e w6 ⟨v5, rfl, hb, h5⟩
            replace hf := hf.below hb
            replace hyes := hyes.below hb
            replace hno := hno.below hb
            replace hx := hx.below hb
            replace h1 := h1.below hb
            replace h2 := h2.below hb
            replace h3 := h3.below hb
            replace h4 := h4.below hb
            replace hT := bthen hT hb
            clear hb
            go_wp2_with fail
            refine (w_or hm h2 h5).mono ?_
            rintro e w7 ⟨v6, rfl, hb, h6⟩
            replace hf := hf.below hb
            replace hyes := hyes.below hb
            replace hno := hno.below hb
            replace hx := hx.below hb
            replace h1 := h1.below hb
            replace h2 := h2.below hb
            replace h3 := h3.below hb
            replace h4 := h4.below hb
            replace h5 := h5.below hb
            replace hT := bthen hT hb
            clear hb
            go_wp2_with fail
            refine (w_const hm hx false false (atom_two hap)).mono ?_
            rintro e w8 ⟨rfl, hb⟩
            replace hf := hf.below hb
            replace hyes := hyes.below hb
            replace hno := hno.below hb
            replace hx := hx.below hb
            replace h1 := h1.below hb
            replace h2 := h2.below hb
            replace h3 := h3.below hb
            replace h4 := h4.below hb
            replace h5 := h5.below hb
            replace h6 := h6.below hb
            replace hT := bthen hT hb
            clear hb
            go_wp2_with fail
            refine (w_sameT hm h6 hf (fun x hx => by
              cases hb : x.testBit a with
              | true => rw [set_id hm hx hb]; cases p x <;> simp
              | false => rw [set_id hm hx hb]; cases p x <;> simp)).mono ?_
            rintro e w9 ⟨rfl, hb⟩
            replace hf := hf.below hb
            replace hyes := hyes.below hb
            replace hno := hno.below hb
            replace hx := hx.below hb
            replace h1 := h1.below hb
            replace h2 := h2.below hb
            replace h3 := h3.below hb
            replace h4 := h4.below hb
            replace h5 := h5.below hb
            replace h6 := h6.below hb
            replace hT := bthen hT hb
            clear hb
            go_wp2_with fail
            refine (awake28 _).mono ?_
            rintro e w10 ⟨rfl, hb⟩
            replace hf := hf.below hb
            replace hyes := hyes.below hb
            replace hno := hno.below hb
            replace hx := hx.below hb
            replace h1 := h1.below hb
            replace h2 := h2.below hb
            replace h3 := h3.below hb
            replace h4 := h4.below hb
            replace h5 := h5.below hb
            replace h6 := h6.below hb
            replace hT := bthen hT hb
            clear hb
            go_wp2
            go_ret
            exact ⟨rfl, hT⟩
end Go.Proofs.Ytkffofolhckjeaa
