/- The walk of the reference's Merge. -/
import Derived.Test.YtgmbicjcfhmcdaaMergeV
import Derived.Test.YtgmbicjcfhmcdaaRef8
set_option linter.unusedVariables false
set_option linter.unusedSimpArgs false
/-! The walk of the reference's Merge. -/
namespace Go.Proofs.Ytgmbicjcfhmcdaa
open Go.RowKit
attribute [local go_sem ↓] Go.wp_at_zero Go.wp_at_succ
theorem wpList_of_step {P : Program} {w : World} {ops : Array Oper} {rest : List Oper} {o : Oper} {a : Act} {Q : Exit → Act → World → Prop}
    (h : if Region.wanted o (yielded ops a.tmps) = true then Oper.wp P o a w (wpList P ops Q rest) Q else False) : wpList P ops Q (o :: rest) a w := by
  show if Region.wanted o (yielded ops a.tmps) = true then _ ∨ _ else _
  split at h
  · rename_i e
    rw [if_pos e]
    exact .inl h
  · exact absurd h id
theorem Wr.belM {Gs : List Nat} {w w1 w2 : World} {B : Nat} (h : Wr Gs w w1) (hb : Below B w1 w2) (hB : w.heap.size ≤ B) : Wr Gs w w2 :=
  ⟨hb.os.trans h.os, hb.tape.trans h.tape, hb.output.trans h.output, Nat.le_trans h.size hb.size, fun b hl hg => (hb.block b (by omega)).trans (h.block b hl hg)⟩
/-- The rows that are left, where each one's first us[i] are gone. -/
def rowsK (ls : List TrS) (us : List Nat) : List (List Evt) := (List.range ls.length).map fun i => (evsAt ls i).drop (us.getD i 0)
theorem rowsK_len (ls : List TrS) (us : List Nat) : (rowsK ls us).length = ls.length := by simp [rowsK]
theorem rowsK_get (ls : List TrS) (us : List Nat) (i : Nat) : (rowsK ls us).getD i [] = (evsAt ls i).drop (us.getD i 0) := by
  unfold rowsK
  rw [List.getD, List.getElem?_map]
  by_cases h : i < ls.length
  · rw [List.getElem?_range h]; rfl
  · rw [List.getElem?_eq_none (by simp; omega)]
    have : evsAt ls i = [] := by unfold evsAt; rw [List.getD, List.getElem?_eq_none (by omega)]; rfl
    rw [this]; simp
theorem rowsK_zero (ls : List TrS) (n : Nat) : rowsK ls (List.replicate n 0) = ls.map fun t => t.2 := by
  refine List.ext_getElem? fun i => ?_
  unfold rowsK
  rw [List.getElem?_map, List.getElem?_map]
  by_cases h : i < ls.length
  · rw [List.getElem?_range h, List.getElem?_eq_getElem h]
    have h0 : (List.replicate n 0).getD i 0 = 0 := by rw [List.getD, List.getElem?_replicate]; split <;> rfl
    simp only [Option.map_some, h0, List.drop_zero]
    unfold evsAt
    rw [List.getD, List.getElem?_eq_getElem h]; rfl
  · rw [List.getElem?_eq_none (by simp; omega), List.getElem?_eq_none (by omega)]; rfl
theorem rowsK_set {ls : List TrS} {us : List Nat} {b : Nat} (hb : b < ls.length) (hu : b < us.length) (k : Nat) : rowsK ls (us.set b k) = (rowsK ls us).set b ((evsAt ls b).drop k) := by
  refine List.ext_getElem? fun i => ?_
  by_cases c : i = b
  · subst c
    rw [List.getElem?_set_self (by rw [rowsK_len]; exact hb)]
    unfold rowsK
    rw [List.getElem?_map, List.getElem?_range hb, Option.map_some, List.getD, List.getElem?_set_self hu]; rfl
  · rw [List.getElem?_set_ne (fun e => c e.symm)]
    unfold rowsK
    rw [List.getElem?_map, List.getElem?_map]
    by_cases h : i < ls.length
    · rw [List.getElem?_range h, Option.map_some, Option.map_some, List.getD, List.getElem?_set_ne (fun e => c e.symm)]; rfl
    · rw [List.getElem?_eq_none (by simp; omega)]; rfl
/-- The best one as a number. -/
def bestI : Option Nat → Int
  | none => -1
  | some b => (b : Int)
section
variable {β : Type} (tm : β → Nat)
theorem bestTo_skip {R : List (List β)} {k : Nat} (h : R.getD k [] = []) : bestTo tm R (k + 1) = bestTo tm R k := by
  rw [bestTo, if_pos h]
theorem bestTo_first {R : List (List β)} {k : Nat} (h : R.getD k [] ≠ []) (hn : bestTo tm R k = none) : bestTo tm R (k + 1) = some k := by
  rw [bestTo, if_neg h, hn]
theorem bestTo_less {R : List (List β)} {k b : Nat} (h : R.getD k [] ≠ []) (hn : bestTo tm R k = some b) (hl : headT tm (R.getD k []) < headT tm (R.getD b [])) : bestTo tm R (k + 1) = some k := by
  rw [bestTo, if_neg h, hn]
  simp only [if_pos hl]
theorem bestTo_keep {R : List (List β)} {k b : Nat} (h : R.getD k [] ≠ []) (hn : bestTo tm R k = some b) (hl : ¬ headT tm (R.getD k []) < headT tm (R.getD b [])) : bestTo tm R (k + 1) = some b := by
  rw [bestTo, if_neg h, hn]
  simp only [if_neg hl]
end
/-- Ids by the names of all: the first k names. -/
def mvK (U ss : List ByteArray) (ids : List Int) (k : Nat) : List Int := ((List.range k).filter fun k => decide (0 ≤ idxS ss (U.getD k default)) && hasZ ids (idxS ss (U.getD k default))).map fun k : Nat => (k : Int)
theorem mvK_next (U ss : List ByteArray) (ids : List Int) (k : Nat) : mvK U ss ids (k + 1) = mvK U ss ids k ++ if (decide (0 ≤ idxS ss (U.getD k default)) && hasZ ids (idxS ss (U.getD k default))) = true then [(k : Int)] else [] := by
  unfold mvK
  rw [List.range_succ, List.filter_append, List.map_append]
  congr 1
  rw [List.filter_cons, List.filter_nil]
  split <;> rfl
theorem evsAt_at {ls : List TrS} {i : Nat} (h : i < ls.length) : evsAt ls i = ls[i].2 := by unfold evsAt; rw [List.getD, List.getElem?_eq_getElem h]; rfl
theorem ev_at {F : Fz} {A : Option Addr} {n : Nat} {es : List Evt} (h : EvsF F A n es) {u : Nat} (hu : u < es.length) : ∃ ax Ai ci, A = some ax ∧ es[u].time < 18446744073709551616 ∧ es[u].ids.length ≤ ci ∧ Rd F 1 Ai es[u].ids.length (es[u].ids.map (Value.int .i64)) ∧ F.cell (ax.add (u * 2)) = some (.int .u64 (es[u].time : Nat)) ∧ F.cell ((ax.add (u * 2)).add 1) = some (.slice Ai es[u].ids.length ci) := by
  obtain ⟨ax, e, hh⟩ := h.2 (by have := h.1; omega)
  obtain ⟨h1, Ai, ci, h2, h3, h4, h5⟩ := hh u hu
  exact ⟨ax, Ai, ci, e, h1, h2, h3, h4, h5⟩
def usC (us : List Nat) : Array Value := (us.map fun u : Nat => Value.int .i64 (u : Nat)).toArray
theorem usC_zero (n : Nat) : usC (List.replicate n 0) = zeros (.int .i64 0) n := by
  unfold usC
  rw [List.map_replicate]
  simp [zeros]
theorem usC_at {w : World} {g : Nat} {us : List Nat} (h : Blk w g 3 (usC us)) {i : Nat} (hi : i < us.length) : w.cell? ⟨g, i, none⟩ = some (.int .i64 (us.getD i 0 : Nat)) ∧ w.frozen? ⟨g, i, none⟩ = false := by
  refine ⟨?_, h.frozen i⟩
  rw [h.cell]
  unfold usC
  rw [List.getElem?_toArray, List.getElem?_map, List.getElem?_eq_getElem hi, List.getD, List.getElem?_eq_getElem hi]; rfl
theorem usC_set {w : World} {g : Nat} {us : List Nat} (h : Blk w g 3 (usC us)) (i k : Nat) : Blk (w.setCell ⟨g, i, none⟩ (.int .i64 (k : Nat))) g 3 (usC (us.set i k)) := by
  have := h.set_ i (.int .i64 (k : Nat))
  unfold usC at this ⊢
  rw [List.map_set]
  simpa using this
set_option maxRecDepth 100000 in
set_option maxHeartbeats 8000000 in
theorem refMerge_w {F : Fz} {w : World} (hF : Sat F w) (ls : List TrS) (A : Option Addr) (n c : Nat) (hl : TrsF F A n ls) (hn : n ≤ 20) (hb : ∀ t ∈ ls, t.1.length ≤ 100 ∧ t.2.length ≤ 1000 ∧ ∀ e ∈ t.2, e.ids.length ≤ 1000) :
    Calls Try.prog 10 #[.slice A n c] w (RetMg w (mergeM ls)) := by
  have hUl : (namesT ls).length ≤ 2000 := by
    have h1 := namesT_len ls 100 fun t ht => (hb t ht).1
    have h2 := hl.1
    have h3 : ls.length * 100 ≤ 20 * 100 := Nat.mul_le_mul_right _ (by omega)
    omega
  have HMY := Lib.hid (fun (X : World) (h : Sat F X) (ss : List ByteArray) (es : List Evt) (An : Option Addr) (nn cn : Nat) (hcn : nn ≤ cn) (hN : Rd F 1 An nn (ss.map Value.string)) (Ae : Option Addr) (ne ce : Nat) (hne : ne ≤ 1000000000) (hE : EvsF F Ae ne es) hid R hR => mayR8_w h ss es An nn cn hcn hN Ae ne ce hne hE hid R hR)
  have HL := Lib.hid hl
  have HLN : Hid (ls.length = n) := Lib.hid hl.1
  have HBD := Lib.hid hb
  have HF := Lib.hid hF
  have HUL := Lib.hid hUl
  clear hl hb hF hUl
  go_enter Try.func10, Try.ntmps10
  go_wp2_with fail
  obtain ⟨W3, hW3⟩ : ∃ W3, (w.alloc (.cells #[.slice none 0 0, .slice none 0 0] 27)).alloc (.cells #[.slice none 0 0, .slice none 0 0] 27) = W3 := ⟨_, rfl⟩
  have HB1 : Hid (Blk W3 w.heap.size 27 #[.slice none 0 0, .slice none 0 0]) := Lib.hid (by rw [← hW3]; exact (Blk.new w _ _).alloc _)
  have HB2 : Hid (Blk W3 (w.heap.size + 1) 27 #[.slice none 0 0, .slice none 0 0]) := Lib.hid (by rw [← hW3]; have := Blk.new (w.alloc (.cells #[.slice none 0 0, .slice none 0 0] 27)) 27 #[.slice none 0 0, .slice none 0 0]; simpa using this)
  have HBW : Hid (Below w.heap.size w W3) := Lib.hid (by rw [← hW3]; exact (balloc _ _).alloc (by simp) _)
  have hz3 : w.heap.size + 2 ≤ W3.heap.size := by rw [← hW3]; simp
  rw [hW3]
  clear hW3
  go_loopw [6, 23] (fun _ v23 wr => ∃ i : Nat, i ≤ n ∧ v23 = .int .i64 i ∧ Hid (mayAll (ls.take i) = true) ∧ Below w.heap.size w wr ∧ Below W3.heap.size W3 wr) (fun _ v23 _ => n - (intOf v23).toNat)
  case atStart => exact ⟨0, Nat.zero_le _, rfl, Lib.hid (by simp [mayAll]), HBW.out, Below.refl _ _⟩
  case round =>
    obtain ⟨i, hi, rfl, HMA, hbl, hbl3⟩ := hrel
    clear HBW
    by_cases hlt : i < n
    · have hiI : (i : Int) < (n : Int) := by omega
      have hil : i < ls.length := by rw [HLN.out]; exact hlt
      obtain ⟨ad, rfl, hrow⟩ := HL.out.2 (by omega)
      obtain ⟨An, cn, Ae, ce, hcn, hce, c0, c1, hrn, hev⟩ := hrow i hil
      have hFw : Sat F wr := HF.out.below hbl
      have z0 := hFw.cell c0
      have z1 := hFw.cell c1
      obtain ⟨b1, b2, b3⟩ := HBD.out _ (List.getElem_mem hil)
      have htk : ls.take (i + 1) = ls.take i ++ [ls[i]] := List.take_succ_eq_append_getElem hil
      have HMA2 : Hid (∀ b, mayT ls[i].1 ls[i].2 = b → mayAll (ls.take (i + 1)) = b) := Lib.hid (fun b hb => by
        have := HMA.out
        unfold mayAll at this ⊢
        rw [htk, List.all_append, this, Bool.true_and, List.all_cons, List.all_nil, Bool.and_true, hb])
      have HMF : Hid (mayT ls[i].1 ls[i].2 = false → mayAll ls = false) := Lib.hid (fun hb => by
        unfold mayAll
        rw [List.all_eq_false]
        exact ⟨_, List.getElem_mem hil, by rw [hb]; simp⟩)
      have HM1 := Lib.hid (fun (X : World) (h : Sat F X) (R : Bool) (hR : mayT (ls[i]'hil).1 (ls[i]'hil).2 = R) => HMY.out X h ls[i].1 ls[i].2 An _ cn hcn hrn Ae _ ce (by omega) hev (fun e he => by have := b3 e he; omega) R hR)
      obtain ⟨x1, hx1⟩ : ∃ x, ls[i].1 = x := ⟨_, rfl⟩
      obtain ⟨x2, hx2⟩ : ∃ x, ls[i].2 = x := ⟨_, rfl⟩
      simp only [hx1, hx2] at z0 z1 HMA2 HMF HM1 b2
      obtain ⟨K, hK⟩ : ∃ K, x1.length = K := ⟨_, rfl⟩
      obtain ⟨Q, hQ⟩ : ∃ Q, x2.length = Q := ⟨_, rfl⟩
      rw [hK] at z0 HM1
      rw [hQ] at z1 HM1 b2
      have z1' : wr.cell? ⟨(ad.add (i * 2)).block, (ad.add (i * 2)).off + 1, none⟩ = some (.slice Ae Q ce) := z1
      have HBA : Hid (Below w.heap.size w (wr.alloc (.cells #[.slice An K cn, .slice Ae Q ce] 27))) := Lib.hid (hbl.alloc hbl.size _)
      have HBA3 : Hid (Below W3.heap.size W3 (wr.alloc (.cells #[.slice An K cn, .slice Ae Q ce] 27))) := Lib.hid (hbl3.alloc hbl3.size _)
      have HFA := Lib.hid (hFw.alloc (.cells #[.slice An K cn, .slice Ae Q ce] 27))
      clear z1 hrow c0 c1 hrn hev b1 b3 htk hx1 hx2 hK hQ hFw hbl hbl3 hil hcn hce b2
      cases hmy : mayT x1 x2
      · have HMC := Lib.hid (HM1.out _ HFA.out false hmy)
        have HFL := Lib.hid (HMF.out hmy)
        clear hmy
        go_wp2_with (go_at_call 24; refine HMC.out.mono ?_; rintro e w5 ⟨rfl, hb5⟩; have hB5 := HB1.out.call (bthen HBA3.out hb5); obtain ⟨r0, r1, g0, g1⟩ := blk2E hB5)
        have HB5 : Hid (Below w.heap.size w w5) := Lib.hid (bthen HBA.out hb5)
        exact bodyPost_ret (v := .tuple #[.agg #[.slice none 0 0, .slice none 0 0], .int .i64 1]) (by simp [results, Try.results10, go_sem, r0, r1, g0, g1]) rfl (by
          unfold mergeM
          rw [HFL.out]
          exact ⟨none, 0, none, 0, rfl, Nat.le_refl _, Nat.le_refl _, (HB5.out.setCell (p := ⟨w.heap.size, 0, none⟩) (Nat.le_refl _) _).setCell (p := ⟨w.heap.size, 1, none⟩) (Nat.le_refl _) _, Rd.nil, ⟨rfl, fun h => absurd h (Nat.lt_irrefl _)⟩⟩)
      · have HMC := Lib.hid (HM1.out _ HFA.out true hmy)
        have HMA3 := Lib.hid (HMA2.out _ hmy)
        clear hmy
        go_wp2_with (go_at_call 24; refine HMC.out.mono ?_; rintro e w5 ⟨rfl, hb5⟩)
        go_roundw
        case rel => exact ⟨i + 1, by omega, by go_num, HMA3, bthen HBA.out hb5, bthen HBA3.out hb5⟩
        case measure => simp [intOf]; omega
    · obtain rfl : n = i := by omega
      have hdec : decide ((n : Int) < (n : Int)) = false := decide_eq_false (by omega)
      have hta : ls.take n = ls := by rw [← HLN.out, List.take_length]
      rw [hta] at HMA
      have HC1 := Lib.hid (HB1.out.call hbl3)
      have hC2 := HB2.out.call hbl3
      have HBL := Lib.hid hbl
      have HO0 := Lib.hid (Own.nil F wr (w.heap.size + 2) 9 1)
      clear hbl hbl3 hta HB1 HB2 hz3 hi hlt HMY
      go_wp2_with fail
      go_loopw [8, 10, 34] (fun _ _ v34 wr => ∃ (i : Nat) (ss : List ByteArray) (Ao : Option Addr) (no co : Nat), i ≤ n ∧ v34 = .int .i64 i ∧ no ≤ co ∧ no ≤ 2000 ∧ Hid (ss = outS ls i 0) ∧ Hid (ss.length = no) ∧ Blk wr (w.heap.size + 1) 27 #[.slice Ao no co, .slice none 0 0] ∧ Own F wr (w.heap.size + 2) 9 1 (.slice Ao no co) no (ss.map Value.string) ∧ Blk wr w.heap.size 27 #[.slice none 0 0, .slice none 0 0] ∧ Below w.heap.size w wr) (fun _ _ v34 _ => n - (intOf v34).toNat)
      case atStart => exact ⟨0, [], none, 0, 0, Nat.zero_le _, rfl, Nat.le_refl _, by omega, Lib.hid (outS_zero ls).symm, Lib.hid rfl, hC2, HO0.out, HC1.out, HBL.out⟩
      case round =>
        clear hC2 HC1 HO0 HBL
        obtain ⟨i, ss, Ao, no, co, hi, rfl, hnc, hno, HS, HN, hG, hO, hR, hbl⟩ := hrel
        by_cases hlt : i < n
        · have hiI : (i : Int) < (n : Int) := by omega
          have hil : i < ls.length := by rw [HLN.out]; exact hlt
          obtain ⟨ad, rfl, hrow⟩ := HL.out.2 (by omega)
          obtain ⟨An, cn, Ae, ce, hcn, hce, c0, c1, hrn, hev⟩ := hrow i hil
          have hFw : Sat F wr := HF.out.below hbl
          have z0 := hFw.cell c0
          have z1 := hFw.cell c1
          have hbk := (HBD.out _ (List.getElem_mem hil)).1
          have HS1 : Hid (ss = outS ls i 0) := HS
          have HNX := Lib.hid (outS_next hil)
          have HST := Lib.hid (fun j s h => outS_stepQ (j := j) (s := s) hil h)
          have HPX := Lib.hid (fun j => outS_prefix ls i j hil)
          obtain ⟨nm, hnm⟩ : ∃ nm, ls[i].1 = nm := ⟨_, rfl⟩
          obtain ⟨K, hK⟩ : ∃ K, nm.length = K := ⟨_, rfl⟩
          obtain ⟨Q, hQ⟩ : ∃ Q, ls[i].2.length = Q := ⟨_, rfl⟩
          simp only [hnm] at hrn hcn z0 hbk HNX HST
          rw [hK] at hrn hcn z0 hbk HNX
          rw [hQ] at z1
          have z1' : wr.cell? ⟨(ad.add (i * 2)).block, (ad.add (i * 2)).off + 1, none⟩ = some (.slice Ae Q ce) := z1
          have HNM := Lib.hid hK
          have hbA := balloc wr (.cells #[.slice An K cn, .slice Ae Q ce] 27)
          have HGA := Lib.hid (hG.call hbA)
          have HOA := Lib.hid (hO.call hbA)
          have HRA := Lib.hid (hR.call hbA)
          have HBA := Lib.hid (bthen hbl hbA)
          clear z1 hev hO hG hR hbl hrow c0 c1 hnm hK hQ hFw hil hce hbA
          go_wp2_with fail
          clear z0 z1'
          go_loopw [10, 41] (fun _ v41 wr => ∃ (j : Nat) (ss : List ByteArray) (Ao : Option Addr) (no co : Nat), j ≤ K ∧ v41 = .int .i64 j ∧ no ≤ co ∧ no ≤ 2000 ∧ Hid (ss = outS ls i j) ∧ Hid (ss.length = no) ∧ Blk wr (w.heap.size + 1) 27 #[.slice Ao no co, .slice none 0 0] ∧ Own F wr (w.heap.size + 2) 9 1 (.slice Ao no co) no (ss.map Value.string) ∧ Blk wr w.heap.size 27 #[.slice none 0 0, .slice none 0 0] ∧ Below w.heap.size w wr) (fun _ v41 _ => K - (intOf v41).toNat)
          case atStart => exact ⟨0, ss, Ao, no, co, Nat.zero_le _, rfl, hnc, hno, HS1, HN, HGA.out, HOA.out, HRA.out, HBA.out⟩
          case round =>
            clear HS HN HS1 HOA HGA HRA HBA hnc hno
            obtain ⟨j, ss, Ao, no, co, hj, rfl, hnc, hno, HS, HN, hG, hO, hR, hbl⟩ := hrel
            by_cases hjK : j < K
            · have hjI : (j : Int) < (K : Int) := by omega
              have hjl : j < nm.length := by rw [HNM.out]; exact hjK
              obtain ⟨a0, v0, rfl, hv0, hc0⟩ := hrn.at1 hjK
              rw [List.getElem?_map, List.getElem?_eq_getElem hjl] at hv0
              injection hv0 with hv0
              subst hv0
              have z0 := (HF.out.below hbl).cell hc0
              have hst := HST.out j nm[j] (List.getElem?_eq_getElem hjl)
              have hpx := HPX.out (j + 1)
              rw [hst, ← HS.out] at hpx
              rw [← HS.out] at hst
              generalize nm[j] = s at *
              obtain ⟨Ax, cx, ex, hcx, hrd⟩ := hO.rdH
              injection ex with ex1 _ ex3
              subst ex1 ex3
              have HIX := Lib.hid (containsS_w (sat_heapF wr) ss Ao no co (by omega) hrd s)
              obtain ⟨q0, q1, f0, f1⟩ := blk2E hG
              have hgl := hG.lt
              by_cases hin : s ∈ ss
              · have he : addS ss s = ss := by unfold addS; rw [if_pos ((hasS_iff _ _).2 hin)]
                rw [he] at hst
                have HS2 : Hid (ss = outS ls i (j + 1)) := Lib.hid hst.symm
                have HI1 := Lib.hid (HIX.out true ((hasS_iff _ _).2 hin))
                have HG := Lib.hid hG
                have HO := Lib.hid hO
                have HR := Lib.hid hR
                have HBL := Lib.hid hbl
                clear hG hO hR hbl hc0 hpx hst hrd hjl he hin
                go_wp2_with (go_at_call 25; refine HI1.out.mono ?_; rintro e w3 ⟨rfl, rfl⟩)
                go_roundw
                case rel => exact ⟨j + 1, ss, Ao, no, co, by omega, by go_num, hnc, hno, HS2, HN, HG.out, HO.out, HR.out, HBL.out⟩
                case measure => simp [intOf]; omega
              · have he : addS ss s = ss ++ [s] := by unfold addS; rw [if_neg (fun h => hin ((hasS_iff _ _).1 h))]
                rw [he] at hst hpx
                have HS2 : Hid (ss ++ [s] = outS ls i (j + 1)) := Lib.hid hst.symm
                have hnl : no + 1 ≤ 2000 := by
                  have h := hpx.length_le
                  have := HUL.out
                  rw [List.length_append, HN.out, List.length_singleton] at h
                  omega
                have HI1 := Lib.hid (HIX.out false ((hasS_false _ _).2 hin))
                have HG := Lib.hid hG
                have HO := Lib.hid hO
                have HR := Lib.hid hR
                have HBL := Lib.hid hbl
                have HFr := Lib.hid (HF.out.below hbl)
                clear hG hO hR hbl hc0 hpx hst hrd hjl he hin
                go_wp2_with (first
                  | (go_at_call 25; refine HI1.out.mono ?_; rintro e w3 ⟨rfl, rfl⟩)
                  | (at_builtin; refine wpList_pushSt rfl (.tmp 51) (.tmp 53) rfl (HO.out.alloc _) (HFr.out.alloc _) (by rfl) wr.heap.size 1 s (by rfl) (Blk.new _ _ _) (by omega) (by simp; omega) ?_; intro v4 w4 hO4 hF4 hb4 hg4 hat4; obtain ⟨A4, c4, hv4, hc4⟩ := hO4.shape; subst hv4; have hG4 := (HG.out.alloc (.cells #[.string s] 9)).grown hg4 (fun q => by have := (HO.out.1.lt _ q.symm).1; omega); obtain ⟨k0, k1, g0, g1⟩ := blk2E hG4))
                have hR4 := (HR.out.alloc (.cells #[.string s] 9)).below hb4 (by omega)
                have hb4' : Below w.heap.size w w4 := (HBL.out.alloc HBL.out.size (.cells #[.string s] 9)).trans (hb4.mono (by omega))
                have HG7 := Lib.hid (hG4.set_ 0 (.slice A4 (no + 1) c4))
                have HO7 := Lib.hid (hO4.setFar (a := ⟨w.heap.size + 1, 0, none⟩) (fun e => by have h := (hO4.1.lt _ e).1; have h : w.heap.size + 2 ≤ w.heap.size + 1 := h; omega) (.slice A4 (no + 1) c4))
                have HR7 := Lib.hid (hR4.far (p := ⟨w.heap.size + 1, 0, none⟩) (show w.heap.size ≠ w.heap.size + 1 by omega) (.slice A4 (no + 1) c4))
                have HB7 := Lib.hid (hb4'.setCell (p := ⟨w.heap.size + 1, 0, none⟩) (show w.heap.size ≤ w.heap.size + 1 by omega) (.slice A4 (no + 1) c4))
                clear hG4 hO4 hR4 hF4 hb4 hb4' hg4 hat4
                go_wp2_with fail
                go_roundw
                case rel => exact ⟨j + 1, ss ++ [s], A4, no + 1, c4, by omega, by go_num, hc4, hnl, HS2, (Lib.hid (by rw [List.length_append, HN.out]; rfl)), HG7.out, HO7.out, HR7.out, HB7.out⟩
                case measure => simp [intOf]; omega
            · obtain rfl : j = K := by omega
              have hdec : decide ((j : Int) < (j : Int)) = false := decide_eq_false (by omega)
              have HS2 : Hid (ss = outS ls (i + 1) 0) := Lib.hid (by rw [HS.out, HNX.out])
              go_wp2_with fail
              go_roundw
              case rel => exact ⟨i + 1, ss, Ao, no, co, by omega, by go_num, hnc, hno, HS2, HN, hG, hO, hR, hbl⟩
              case measure => simp [intOf]; omega
        · obtain rfl : n = i := by omega
          have hdec : decide ((n : Int) < (n : Int)) = false := decide_eq_false (by omega)
          have HE : Hid (namesT ls = ss) := Lib.hid (by rw [HS.out, ← HLN.out, outS_all])
          obtain ⟨q0, q1, f0, f1⟩ := blk2E hG
          obtain ⟨r0, r1, g0, g1⟩ := blk2E hR
          by_cases h64 : 64 < no
          · have h64I : (64 : Int) < (no : Int) := by omega
            have HB5 := Lib.hid hbl
            clear hG hR hO hbl
            go_wp2_with fail
            exact bodyPost_ret (v := .tuple #[.agg #[.slice none 0 0, .slice none 0 0], .int .i64 4]) (by simp [results, Try.results10, go_sem, r0, r1, g0, g1]) rfl (by
              unfold mergeM
              rw [HMA.out, if_pos rfl, HE.out, HN.out, if_pos h64]
              exact ⟨none, 0, none, 0, rfl, Nat.le_refl _, Nat.le_refl _, (HB5.out.setCell (p := ⟨w.heap.size, 0, none⟩) (Nat.le_refl _) _).setCell (p := ⟨w.heap.size, 1, none⟩) (Nat.le_refl _) _, Rd.nil, ⟨rfl, fun h => absurd h (Nat.lt_irrefl _)⟩⟩)
          · have h64I : ¬ (64 : Int) < (no : Int) := by omega
            have hmk := makeI (w := wr) n (by omega)
            obtain ⟨w1, hw1⟩ : ∃ w1, w1 = wr := ⟨_, rfl⟩
            subst hw1
            obtain ⟨W, hW⟩ : ∃ W, w1.alloc (.cells (zeros (.int .i64 0) n) 3) = W := ⟨_, rfl⟩
            have hbW : Below w1.heap.size w1 W := hW ▸ balloc _ _
            have hW0 : W.heap.size = w1.heap.size + 1 := by rw [← hW]; simp
            have HA0 : Hid (Blk W w1.heap.size 3 (usC (List.replicate n 0))) := Lib.hid (by rw [← hW, usC_zero]; exact Blk.new _ _ _)
            rw [hW] at hmk
            obtain ⟨ga, hga⟩ : ∃ ga, w1.heap.size = ga := ⟨_, rfl⟩
            have hg1 := hG.lt
            have hFn : ∀ g, g ∈ [w.heap.size + 1, ga] → F g = none := fun g hg => HF.out.none_ (by have := hbl.size; simp at hg; omega)
            obtain ⟨F2, hF2⟩ : ∃ F2, hx W [w.heap.size + 1, ga] = F2 := ⟨_, rfl⟩
            have hFW : Sat F W := (HF.out.below hbl).below hbW
            have hle : CLe F F2 := hF2 ▸ cle_hx hFW hFn
            have HF2W : Hid (Sat F2 W) := Lib.hid (hF2 ▸ sat_hx W _)
            have HFN : Hid (∀ g, g ∈ [w.heap.size + 1, ga] → F2 g = none) := Lib.hid (fun g hg => hF2 ▸ hx_in hg)
            have HTR : Hid (TrsF F2 A n ls) := Lib.hid (HL.out.cle hle)
            obtain ⟨Ax, cx, ex, hcx, hrd⟩ := (hO.call hbW).rdH
            injection ex with ex1 _ ex3
            subst ex1 ex3
            have hfra : ∀ a, Ao = some a → w.heap.size + 2 ≤ a.block := fun a ha => hO.fresh a ha
            have HNM : Hid (Rd F2 1 Ao no (ss.map Value.string)) := Lib.hid (hF2 ▸ rd_hxM hrd (fun a ha h0 => by
              have h1 := hfra a ha
              have h2 : a.block < w1.heap.size := by
                obtain ⟨A9, c9, e9, _, h9⟩ := hO.rdH
                injection e9 with e91
                subst e91
                exact rd_lt h9 h0 a ha
              simp; omega))
            have HG0 : Hid (Blk W (w.heap.size + 1) 27 #[.slice Ao no co, .slice none 0 0]) := Lib.hid (hG.call hbW)
            have HR0 : Hid (Blk W w.heap.size 27 #[.slice none 0 0, .slice none 0 0]) := Lib.hid (hR.call hbW)
            have HBW : Hid (Below w.heap.size w W) := Lib.hid (bthen hbl hbW)
            have HFRA := Lib.hid hfra
            obtain ⟨TOT, hTOT⟩ : ∃ T, (mergeT ls).2.length = T := ⟨_, rfl⟩
            have HTOT := Lib.hid hTOT
            have hTb : TOT ≤ 100000 := by
              have h1 := mergeT_len ls 1000 fun t ht => (HBD.out t ht).2.1
              have h2 := HLN.out
              have h3 : ls.length * 1000 ≤ 20 * 1000 := Nat.mul_le_mul_right _ (by omega)
              omega
            have HE0 : Hid (([] : List Evt) ++ (mergeS tmV (sumLn (rowsK ls (List.replicate n 0))) (rowsK ls (List.replicate n 0))).map (mvE ss ls) = (mergeT ls).2) := Lib.hid (by rw [rowsK_zero, ← HE.out]; rfl)
            have hwga : w.heap.size + 1 < ga := by omega
            have hgaW : ga < W.heap.size := by omega
            rw [hga] at hmk HA0
            clear hG hR hO hbl hbW hW0 hW hFn hF2 hFW hle hrd hfra hTOT hga HF HL HUL hg1 r0 r1 g0 g1 HS
            go_wp2_with fail
            clear hmk q0 q1 f0 f1
            go_loopw [12, 13, 14, 15, 16, 17, 18, 19] (fun _ _ _ _ _ _ _ _ wr => ∃ (us : List Nat) (ev : List Evt) (Av : Option Addr) (L cv : Nat), Hid (us.length = n) ∧ Blk wr ga 3 (usC us) ∧ Hid (ev ++ (mergeS tmV (sumLn (rowsK ls us)) (rowsK ls us)).map (mvE ss ls) = (mergeT ls).2) ∧ Hid (ev.length = L) ∧ L ≤ cv ∧ Blk wr (w.heap.size + 1) 27 #[.slice Ao no co, .slice Av L cv] ∧ OwnE wr W.heap.size (.slice Av L cv) ev ∧ Wr [w.heap.size + 1, ga] W wr) (fun _ _ _ _ _ _ _ _ wr => TOT - evL (w.heap.size + 1) wr)
            case atStart => exact ⟨List.replicate n 0, [], none, 0, 0, Lib.hid (by simp), HA0.out, HE0, Lib.hid rfl, Nat.le_refl _, HG0.out, OwnE.nil _ _, Wr.refl _ _⟩
            case round =>
              clear HA0 HE0 HG0
              obtain ⟨us, ev, Av, L, cv, HUS, hA, HEV, HEL, hLc, hG, hOE, hWr⟩ := hrel
              obtain ⟨wq, hwq⟩ : ∃ wq, wq = wr := ⟨_, rfl⟩
              subst hwq
              have hevq : evL (w.heap.size + 1) wq = L := by
                obtain ⟨_, k1, _, _⟩ := blk2E hG
                unfold evL
                rw [k1]
              have HAq := Lib.hid hA
              have HGq := Lib.hid hG
              have HOq := Lib.hid hOE
              have HWq := Lib.hid hWr
              have HFq : Hid (Sat F2 wq) := Lib.hid (hWr.sat HF2W.out HFN.out)
              clear hA hG hOE hWr
              go_wp2_with fail
              go_loopw [12, 13, 14, 68] (fun v12 _ _ v68 wr => ∃ i : Nat, i ≤ n ∧ v68 = .int .i64 i ∧ v12 = .int .i64 (bestI (bestTo tmV (rowsK ls us) i)) ∧ Below wq.heap.size wq wr) (fun _ _ _ v68 _ => n - (intOf v68).toNat)
              case atStart => exact ⟨0, Nat.zero_le _, rfl, rfl, Below.refl _ _⟩
              case round =>
                obtain ⟨i, hi, rfl, rfl, hbq⟩ := hrel
                by_cases hlt : i < n
                · have hiI : (i : Int) < (n : Int) := by omega
                  have hil : i < ls.length := by rw [HLN.out]; exact hlt
                  obtain ⟨ad, rfl, hrow⟩ := HTR.out.2 (by omega)
                  obtain ⟨An, cn, Ae, ce, hcn, hce, c0, c1, hrn, hev⟩ := hrow i hil
                  have hFw : Sat F2 wr := HFq.out.below hbq
                  have z0 := hFw.cell c0
                  have z1 := hFw.cell c1
                  have hgi : (rowsK ls us).getD i [] = ls[i].2.drop (us.getD i 0) := by rw [rowsK_get, evsAt_at hil]
                  have hq1 := (HBD.out _ (List.getElem_mem hil)).2.1
                  obtain ⟨Q, hQ⟩ : ∃ Q, ls[i].2.length = Q := ⟨_, rfl⟩
                  obtain ⟨K, hK⟩ : ∃ K, ls[i].1.length = K := ⟨_, rfl⟩
                  rw [hQ] at z1 hq1
                  rw [hK] at z0
                  replace z1 : wr.cell? ⟨(ad.add (i * 2)).block, (ad.add (i * 2)).off + 1, none⟩ = some (.slice Ae Q ce) := z1
                  have hbA := balloc wr (.cells #[.slice An K cn, .slice Ae Q ce] 27)
                  have hFA := hFw.below hbA
                  have hAA := (HAq.out.call hbq).call hbA
                  have HBq : Hid (Below wq.heap.size wq (wr.alloc (.cells #[.slice An K cn, .slice Ae Q ce] 27))) := Lib.hid (bthen hbq hbA)
                  obtain ⟨a0, a1⟩ := usC_at hAA (i := i) (by rw [HUS.out]; exact hlt)
                  obtain ⟨u, hu⟩ : ∃ u, us.getD i 0 = u := ⟨_, rfl⟩
                  rw [hu] at a0 hgi
                  obtain ⟨O, hO⟩ : ∃ O, bestTo tmV (rowsK ls us) i = O := ⟨_, rfl⟩
                  rw [hO]
                  by_cases hex : u < ls[i].2.length
                  · obtain ⟨ax, Ai, ci, rfl, ht, hci, hri, e0, e1⟩ := ev_at hev hex
                    have hhead : headT tmV ((rowsK ls us).getD i []) = ls[i].2[u].time := by rw [hgi, List.drop_eq_getElem_cons hex]; rfl
                    have hne : (rowsK ls us).getD i [] ≠ [] := by rw [hgi]; intro h; have := congrArg List.length h; simp at this; omega
                    have x0 := hFA.cell e0
                    cases O with
                    | none =>
                      rw [show bestI none = (-1 : Int) from rfl]
                      have HNB : Hid (bestTo tmV (rowsK ls us) (i + 1) = some i) := Lib.hid (bestTo_first tmV hne hO)
                      have huQ : u < Q := by omega
                      have huI : (u : Int) < (Q : Int) := by omega
                      clear hrow c0 c1 hrn hev hgi hu hbA hFA hAA hO hri e0 e1 hhead hne hQ hK hcn hce hFw hbq x0 ht hci hex hil
                      go_wp2_with fail
                      go_quiet (fail)
                      go_wp2_with fail
                      go_roundw
                      case rel => exact ⟨i + 1, by omega, by go_num, by rw [HNB.out]; rfl, below_drewN HBq.out _⟩
                      case measure => simp [intOf]; omega
                    | some b =>
                      rw [show bestI (some b) = (b : Int) from rfl]
                      obtain ⟨hb1, hb2, _⟩ := bestTo_some tmV hO
                      have hbl2 : b < ls.length := by omega
                      obtain ⟨Anb, cnb, Aeb, ceb, k4, k5, d0, d1, k6, hevb⟩ := hrow b hbl2
                      have hgb : (rowsK ls us).getD b [] = ls[b].2.drop (us.getD b 0) := by rw [rowsK_get, evsAt_at hbl2]
                      obtain ⟨b0, b1⟩ := usC_at hAA (i := b) (by rw [HUS.out]; omega)
                      have hqb := (HBD.out _ (List.getElem_mem hbl2)).2.1
                      obtain ⟨v, hv⟩ : ∃ v, us.getD b 0 = v := ⟨_, rfl⟩
                      rw [hv] at b0 hgb
                      have hexb : v < ls[b].2.length := by
                        rcases Nat.lt_or_ge v ls[b].2.length with h | h
                        · exact h
                        · rw [hgb, List.drop_eq_nil_of_le h] at hb2; exact absurd rfl hb2
                      have hheadb : headT tmV ((rowsK ls us).getD b []) = ls[b].2[v].time := by rw [hgb, List.drop_eq_getElem_cons hexb]; rfl
                      obtain ⟨axb, Aib, cib, rfl, htb, k1, k2, f0, k3⟩ := ev_at hevb hexb
                      have y1 := hFA.cell d1
                      have y0 := hFA.cell f0
                      obtain ⟨T1, hT1⟩ : ∃ T, ls[i].2[u].time = T := ⟨_, rfl⟩
                      obtain ⟨T2, hT2⟩ : ∃ T, ls[b].2[v].time = T := ⟨_, rfl⟩
                      rw [hT1] at hhead x0 ht
                      rw [hT2] at hheadb y0 htb
                      have HNB : Hid (bestTo tmV (rowsK ls us) (i + 1) = if T1 < T2 then some i else some b) := Lib.hid (by
                        split
                        · rename_i h; exact bestTo_less tmV hne hO (by rw [hhead, hheadb]; exact h)
                        · rename_i h; exact bestTo_keep tmV hne hO (by rw [hhead, hheadb]; exact h))
                      obtain ⟨Qb, hQb⟩ : ∃ Q, ls[b].2.length = Q := ⟨_, rfl⟩
                      have huQ : u < Q := by omega
                      have hvQ : v < Qb := by omega
                      rw [hQb] at y1 hqb
                      replace y1 : (wr.alloc (.cells #[.slice An K cn, .slice (some ax) Q ce] 27)).cell? ⟨(ad.add (b * 2)).block, (ad.add (b * 2)).off + 1, none⟩ = some (.slice (some axb) Qb ceb) := y1
                      have huI : (u : Int) < (Q : Int) := by omega
                      have hvI : (v : Int) < (Qb : Int) := by omega
                      have hbI : (b : Int) < (n : Int) := by omega
                      have hb0 : decide ((b : Int) < 0) = false := decide_eq_false (by omega)
                      clear hrow c0 c1 hrn hev hgi hu hbA hFA hAA hO hri e0 e1 hhead hne hQ hK hcn hce hFw hbq hci d0 d1 hevb hgb hv hheadb f0 k1 k2 k3 k4 k5 k6 hT1 hT2 hQb hb2 hex hexb hil hbl2
                      by_cases hlt2 : T1 < T2
                      · have h2I : decide ((T1 : Int) < (T2 : Int)) = true := decide_eq_true (by omega)
                        have h2N : decide (T1 < T2) = true := decide_eq_true hlt2
                        have HNB1 : Hid (bestTo tmV (rowsK ls us) (i + 1) = some i) := Lib.hid (by rw [HNB.out, if_pos hlt2])
                        clear HNB
                        go_wp2_with fail
                        go_quiet (fail)
                        go_wp2_with fail
                        go_roundw
                        case rel => exact ⟨i + 1, by omega, by go_num, by rw [HNB1.out]; rfl, below_drewN HBq.out _⟩
                        case measure => simp [intOf]; omega
                      · have h2I : decide ((T1 : Int) < (T2 : Int)) = false := decide_eq_false (by omega)
                        have h2N : decide (T1 < T2) = false := decide_eq_false hlt2
                        have HNB1 : Hid (bestTo tmV (rowsK ls us) (i + 1) = some b) := Lib.hid (by rw [HNB.out, if_neg hlt2])
                        clear HNB
                        go_wp2_with fail
                        go_quiet (fail)
                        go_wp2_with fail
                        go_roundw
                        case rel => exact ⟨i + 1, by omega, by go_num, by rw [HNB1.out]; rfl, below_drewN HBq.out _⟩
                        case measure => simp [intOf]; omega
                  · have HNB : Hid (bestTo tmV (rowsK ls us) (i + 1) = O) := Lib.hid (by rw [bestTo_skip tmV (by rw [hgi]; exact List.drop_eq_nil_of_le (by omega)), hO])
                    have huQ : ¬ u < Q := by omega
                    have huI : decide ((u : Int) < (Q : Int)) = false := decide_eq_false (by omega)
                    have huN : decide (u < Q) = false := decide_eq_false huQ
                    obtain ⟨Z, hZ⟩ : ∃ Z, bestI O = Z := ⟨_, rfl⟩
                    have HZ := Lib.hid hZ
                    rw [hZ]
                    clear hrow c0 c1 hrn hev hgi hu hbA hFA hAA hO hQ hK hcn hce hFw hbq hZ hex hil
                    go_wp2_with fail
                    go_quiet (fail)
                    go_wp2_with fail
                    go_roundw
                    case rel => exact ⟨i + 1, by omega, by go_num, by rw [HNB.out, HZ.out], below_drewN HBq.out _⟩
                    case measure => simp [intOf]; omega
                · obtain rfl : n = i := by omega
                  have hdec : decide ((n : Int) < (n : Int)) = false := decide_eq_false (by omega)
                  have hbr : bestTo tmV (rowsK ls us) n = bestR tmV (rowsK ls us) := by unfold bestR; rw [rowsK_len, HLN.out]
                  rw [hbr]
                  have hA := HAq.out.call hbq
                  have hG := HGq.out.call hbq
                  have hOE := HOq.out.call hbq
                  have hWr := HWq.out.call hbq
                  have hFr := HFq.out.below hbq
                  clear hbr hbq HAq HGq HOq HWq HFq
                  cases hO : bestR tmV (rowsK ls us) with
                  | none =>
                    rw [show bestI none = (-1 : Int) from rfl]
                    have HEV1 : Hid (ev = (mergeT ls).2) := Lib.hid (by rw [← HEV.out, merge_end tmV hO]; simp)
                    obtain ⟨s0, s1, _, _⟩ := blk2E hG
                    have hR := hWr.blk HR0.out (by simp; omega)
                    obtain ⟨r0, r1, f0, f1⟩ := blk2E hR
                    obtain ⟨A9, c9, e9, hc9, hev9, hfr9⟩ := hOE.done
                    rw [HEL.out] at e9 hc9 hev9
                    injection e9 with e91 _ e93
                    subst e91 e93
                    have HFIN : Hid (∀ u1 u2 : Value, Below w.heap.size w ((wr.setCell ⟨w.heap.size, 0, none⟩ u1).setCell ⟨w.heap.size, 1, none⟩ u2) ∧ Rd (heapF ((wr.setCell ⟨w.heap.size, 0, none⟩ u1).setCell ⟨w.heap.size, 1, none⟩ u2)) 1 Ao no (ss.map Value.string) ∧ EvsF (heapF ((wr.setCell ⟨w.heap.size, 0, none⟩ u1).setCell ⟨w.heap.size, 1, none⟩ u2)) Av L ev) := Lib.hid (fun u1 u2 => by
                      have hbl : Below w.heap.size w wr := HBW.out.trans (hWr.below (B := w.heap.size) (fun g hg => by simp at hg; omega) (by omega))
                      refine ⟨(hbl.setCell (p := ⟨w.heap.size, 0, none⟩) (Nat.le_refl _) u1).setCell (p := ⟨w.heap.size, 1, none⟩) (Nat.le_refl _) u2, ?_, ?_⟩
                      · refine rd_farM (rd_farM (HNM.out.heap hFr) (p := ⟨w.heap.size, 0, none⟩) (fun a ha => ?_) u1) (p := ⟨w.heap.size, 1, none⟩) (fun a ha => ?_) u2 <;> (have := HFRA.out a ha; show a.block ≠ w.heap.size; omega)
                      · obtain ⟨A8, c8, e8, _, h8, _⟩ := ((hOE.set (p := ⟨w.heap.size, 0, none⟩) (show w.heap.size < W.heap.size by omega) u1).set (p := ⟨w.heap.size, 1, none⟩) (show w.heap.size < W.heap.size by omega) u2).done
                        injection e8 with e81
                        rw [HEL.out, ← e81] at h8
                        exact h8)
                    have HT0 : Hid ((mergeT ls).2.length = L) := Lib.hid (by rw [← HEV1.out, HEL.out])
                    have HNC := Lib.hid hnc
                    clear hA hG hOE hWr hFr hR hO hev9 hfr9
                    go_wp2_with fail
                    exact bodyPost_ret (v := .tuple #[.agg #[.slice Ao no co, .slice Av L cv], .int .i64 0]) (by simp [results, Try.results10, go_sem, r0, r1, f0, f1]) rfl (by
                      unfold mergeM
                      rw [HMA.out, if_pos rfl, HE.out, HN.out, if_neg h64]
                      have hT1 : (mergeT ls).1 = ss := HE.out
                      refine ⟨Ao, co, Av, cv, ?_, ?_, ?_, (HFIN.out _ _).1, ?_, ?_⟩
                      · show Ending.returned (.tuple #[.agg #[.slice Ao no co, .slice Av L cv], .int .i64 0]) = _
                        rw [hT1, HN.out, HT0.out]; rfl
                      · rw [hT1, HN.out]; exact HNC.out
                      · rw [HT0.out]; exact hLc
                      · rw [hT1, HN.out]; exact (HFIN.out _ _).2.1
                      · rw [HT0.out, ← HEV1.out]; exact (HFIN.out _ _).2.2)
                  | some b =>
                    rw [show bestI (some b) = (b : Int) from rfl]
                    have hO' : bestTo tmV (rowsK ls us) (rowsK ls us).length = some b := hO
                    obtain ⟨hb1, hb2, _⟩ := bestTo_some tmV hO'
                    rw [rowsK_len] at hb1
                    have hbI : (b : Int) < (n : Int) := by have := HLN.out; omega
                    have hb0 : decide ((b : Int) < 0) = false := decide_eq_false (by omega)
                    obtain ⟨ad, rfl, hrow⟩ := HTR.out.2 (by omega)
                    obtain ⟨An, cn, Ae, ce, hcn, hce, c0, c1, hrn, hev⟩ := hrow b hb1
                    have hEb : evsAt ls b = ls[b].2 := evsAt_at hb1
                    have hgb : (rowsK ls us).getD b [] = ls[b].2.drop (us.getD b 0) := by rw [rowsK_get, hEb]
                    obtain ⟨a0, a1⟩ := usC_at hA (i := b) (by rw [HUS.out]; omega)
                    obtain ⟨m1, m2, m3⟩ := HBD.out _ (List.getElem_mem hb1)
                    obtain ⟨v, hv⟩ : ∃ v, us.getD b 0 = v := ⟨_, rfl⟩
                    rw [hv] at a0 hgb
                    have hexb : v < ls[b].2.length := by
                      rcases Nat.lt_or_ge v ls[b].2.length with h | h
                      · exact h
                      · rw [hgb, List.drop_eq_nil_of_le h] at hb2; exact absurd rfl hb2
                    obtain ⟨ax, Ai, ci, rfl, ht, hci, hri, e0, e1⟩ := ev_at hev hexb
                    have m4 := m3 _ (List.getElem_mem hexb)
                    have hrb : (rowsK ls us).getD b [] = ls[b].2[v] :: ls[b].2.drop (v + 1) := by rw [hgb, List.drop_eq_getElem_cons hexb]
                    have HNX : Hid (mergeS tmV (sumLn (rowsK ls us)) (rowsK ls us) = (b, ls[b].2[v]) :: mergeS tmV (sumLn (rowsK ls (us.set b (v + 1)))) (rowsK ls (us.set b (v + 1)))) := Lib.hid (by
                      have hs := sum_set (by rw [rowsK_len]; exact hb1) hrb
                      have hR2 := rowsK_set (us := us) hb1 (by rw [HUS.out]; have := HLN.out; omega) (v + 1)
                      rw [hEb] at hR2
                      rw [hR2, ← hs]
                      exact merge_step tmV hO hrb)
                    have HMV : Hid (mvE ss ls (b, ls[b].2[v]) = ⟨ls[b].2[v].time, mvK ss ls[b].1 ls[b].2[v].ids ss.length⟩) := Lib.hid (by unfold mvE; rw [List.getD, List.getElem?_eq_getElem hb1]; rfl)
                    generalize hee : ls[b].2[v] = ev1 at *
                    obtain ⟨T, ids⟩ := ev1
                    obtain ⟨x1, hx1⟩ : ∃ x, ls[b].1 = x := ⟨_, rfl⟩
                    simp only [hx1] at c0 hrn m1 HMV
                    obtain ⟨Q, hQ⟩ : ∃ Q, ls[b].2.length = Q := ⟨_, rfl⟩
                    obtain ⟨K, hK⟩ : ∃ K, x1.length = K := ⟨_, rfl⟩
                    obtain ⟨ni, hni⟩ : ∃ ni, ids.length = ni := ⟨_, rfl⟩
                    dsimp only at ht hci hri e0 e1 m4
                    rw [hQ] at c1 hexb m2
                    rw [hK] at c0 hrn m1
                    rw [hni] at hci hri e1 m4
                    have z0 := hFr.cell c0
                    have z1 := hFr.cell c1
                    have x0 := hFr.cell e0
                    have x1c := hFr.cell e1
                    replace z1 : wr.cell? ⟨(ad.add (b * 2)).block, (ad.add (b * 2)).off + 1, none⟩ = some (.slice (some ax) Q ce) := z1
                    replace x1c : wr.cell? ⟨(ax.add (v * 2)).block, (ax.add (v * 2)).off + 1, none⟩ = some (.slice Ai ni ci) := x1c
                    have hvI : (v : Int) < (Q : Int) := by omega
                    have hLT : L < TOT := by
                      have h := congrArg List.length HEV.out
                      rw [HTOT.out, HNX.out] at h
                      simp [HEL.out] at h
                      omega
                    have hgl := hA.lt
                    have hz1l : (ad.add (b * 2)).block < wr.heap.size := by have h := hFr.clt c1; exact h
                    have hx0l : (ax.add (v * 2)).block < wr.heap.size := hFr.clt e0
                    have hAs := usC_set hA b (v + 1)
                    have HIX := Lib.hid (fun (X : World) (hX : Sat F2 X) (s : ByteArray) (R : Int) (hR : idxS x1 s = R) => indexS_w hX x1 An K cn (by omega) hrn s R hR)
                    have HCZ := Lib.hid (fun (X : World) (hX : Sat F2 X) (z : Int) => containsZ_w hX ids Ai ni ci (by omega) hri z)
                    have HC0 := Lib.hid c0
                    have HV := Lib.hid hv
                    have HNI := Lib.hid hni
                    have HA := Lib.hid hA
                    have HG := Lib.hid hG
                    have HOE := Lib.hid hOE
                    have HWr := Lib.hid hWr
                    have HFr := Lib.hid hFr
                    clear hrow c0 c1 hrn hev hEb hgb hv hexb e0 e1 m3 hrb hee hx1 hQ hK hni hri hA hG hOE hWr hFr hO hO' hb2 hAs hcn hce hci z0
                    go_upto_region 30 with fail
                    go_cut [15] from 114 to 124 (fun v15 wx => v15 = .pointer (some ⟨wr.heap.size, 0, none⟩) ∧ ∃ q, wx = (wr.alloc (.cells #[.int .u64 (T : Nat), .slice Ai ni ci] 31)).drewN q)
                    case first =>
                      go_region
                      all_goals
                        go_wp2_with fail
                        go_meet
                        first
                          | exact ⟨rfl, 0, rfl⟩
                          | exact ⟨rfl, 1, rfl⟩
                          | exact ⟨rfl, _, rfl⟩
                    case rest =>
                      obtain ⟨rfl, q, hwx⟩ := hcut
                      have hbc : Below wr.heap.size wr wc := hwx ▸ below_drewN (balloc _ _) q
                      have hEc : Blk wc wr.heap.size 31 #[.int .u64 (T : Nat), .slice Ai ni ci] := hwx ▸ (Blk.new wr _ _).drewN q
                      clear hwx
                      have hAc := HA.out.call hbc
                      obtain ⟨q0, q1⟩ := usC_at hAc (i := b) (by rw [HUS.out]; have := HLN.out; omega)
                      obtain ⟨q2, q3, q4, q5⟩ := blk2E hEc
                      have hnw : wr.heap.size ≠ ga := by omega
                      have hnw' : ga ≠ wr.heap.size := by omega
                      rw [HV.out] at q0
                      obtain ⟨q6, q7, q8, q9⟩ := blk2E (HG.out.call hbc)
                      have hg1c : w.heap.size + 1 < wc.heap.size := by have := hbc.size; omega
                      have hgac : ga < wc.heap.size := by have := hbc.size; omega
                      have hgec : wr.heap.size < wc.heap.size := hEc.lt
                      have hv1 : v + 1 ≤ 1000 := by omega
                      clear z1 x0 x1c a0 a1
                      go_wp2_with fail
                      have hAn := usC_set hAc b (v + 1)
                      have hv2 : ((v + 1 : Nat) : Int) = (v : Int) + 1 := by omega
                      rw [hv2] at hAn
                      obtain ⟨N, hN⟩ : ∃ N, (wc.setCell ⟨ga, b, none⟩ (.int .i64 ((v : Int) + 1))).alloc (.cells #[.int .u64 (T : Nat), .slice none 0 0] 31) = N := ⟨_, rfl⟩
                      have HXn : Hid (Blk N wc.heap.size 31 #[.int .u64 (T : Nat), .slice none 0 0]) := Lib.hid (by
                        rw [← hN]
                        have := Blk.new (wc.setCell ⟨ga, b, none⟩ (.int .i64 ((v : Int) + 1))) 31 #[.int .u64 (T : Nat), .slice none 0 0]
                        simpa using this)
                      have HWn : Hid (Wr [ga] wr N) := Lib.hid (by rw [← hN]; exact (((Wr.refl _ _).call hbc).set (by simp) b _).alloc _)
                      have HAn : Hid (Blk N ga 3 (usC (us.set b (v + 1)))) := Lib.hid (hN ▸ hAn.alloc _)
                      have hEn : Blk N wr.heap.size 31 #[.int .u64 (T : Nat), .slice Ai ni ci] := hN ▸ ((hEc.far (p := ⟨ga, b, none⟩) hnw _).alloc _)
                      have hzN : N.heap.size = wc.heap.size + 1 := by rw [← hN]; simp
                      rw [hN]
                      have hFgx : F2 wc.heap.size = none := HFr.out.none_ hbc.size
                      have HFn : Hid (Sat F2 N) := Lib.hid (HWn.out.sat HFr.out (fun g hg => by simp at hg; subst hg; exact HFN.out _ (by simp)))
                      obtain ⟨gx, hgx⟩ : ∃ gx, wc.heap.size = gx := ⟨_, rfl⟩
                      rw [hgx] at HXn hzN hFgx hg1c hgac hgec
                      rw [hgx]
                      have hzc := hbc.size
                      rw [hgx] at hzc
                      obtain ⟨ge, hge⟩ : ∃ ge, wr.heap.size = ge := ⟨_, rfl⟩
                      rw [hge] at hEn hgec hnw hnw' hzc hgl
                      rw [hge]
                      have HGE := Lib.hid hge
                      have HEn := Lib.hid hEn
                      clear hN hgx hge hAn hv2 hAc hEc hbc q0 q1 q2 q3 q4 q5 q6 q7 q8 q9 hEn hv1 hz1l hx0l
                      go_loopw [17, 18, 19, 137] (fun _ _ _ v137 wr => ∃ (j : Nat) (Ax : Option Addr) (nx cx : Nat), j ≤ no ∧ v137 = .int .i64 j ∧ nx ≤ cx ∧ nx ≤ j ∧ Hid ((mvK ss x1 ids j).length = nx) ∧ Blk wr gx 31 #[.int .u64 (T : Nat), .slice Ax nx cx] ∧ Own noF wr N.heap.size 3 1 (.slice Ax nx cx) nx ((mvK ss x1 ids j).map encI) ∧ Wr [gx] N wr) (fun _ _ _ v137 _ => no - (intOf v137).toNat)
                      case atStart => exact ⟨0, none, 0, 0, Nat.zero_le _, rfl, Nat.le_refl _, Nat.le_refl _, Lib.hid rfl, HXn.out, Own.nil _ _ _ _ _, Wr.refl _ _⟩
                      case round =>
                        obtain ⟨j, Ax, nx, cx, hj, rfl, hnxc, hnxj, HNX2, hX, hO, hWx⟩ := hrel
                        have hFx : Sat F2 wr := hWx.sat HFn.out (fun g hg => by simp at hg; subst hg; exact hFgx)
                        by_cases hjn : j < no
                        · have hjI : (j : Int) < (no : Int) := by omega
                          have hjl : j < ss.length := by rw [HN.out]; exact hjn
                          obtain ⟨a0, v0, rfl, hv0, hc0⟩ := HNM.out.at1 hjn
                          rw [List.getElem?_map, List.getElem?_eq_getElem hjl] at hv0
                          injection hv0 with hv0
                          subst hv0
                          have z0 := hFx.cell hc0
                          have y0 := hFx.cell HC0.out
                          have hE2 := hWx.blk HEn.out (by simp; omega)
                          obtain ⟨x0, x1', x2, x3⟩ := blk2E hE2
                          obtain ⟨w0, w1', w2, w3⟩ := blk2E hX
                          have hnx := mvK_next ss x1 ids j
                          have hsd : ss.getD j default = ss[j] := by rw [List.getD, List.getElem?_eq_getElem hjl]; rfl
                          rw [hsd] at hnx
                          generalize ss[j] = s at *
                          obtain ⟨R, hR⟩ : ∃ R, idxS x1 s = R := ⟨_, rfl⟩
                          rw [hR] at hnx
                          have HI1 := Lib.hid (HIX.out wr hFx s R hR)
                          have HC1 := Lib.hid (HCZ.out wr hFx R)
                          obtain ⟨H, hH⟩ : ∃ H, hasZ ids R = H := ⟨_, rfl⟩
                          rw [hH] at HC1 hnx
                          have hgxl := hX.lt
                          have HX := Lib.hid hX
                          have HO := Lib.hid hO
                          have HWx := Lib.hid hWx
                          clear hc0 hE2 hsd hR hH hX hO hWx hFx hjl
                          have hgx1 : F2 gx = none := hFgx
                          by_cases hR0 : 0 ≤ R
                          · cases H with
                            | false =>
                              have HNX3 : Hid (mvK ss x1 ids (j + 1) = mvK ss x1 ids j) := Lib.hid (by rw [hnx]; simp)
                              clear hnx
                              go_wp2_with (first
                                | (go_at_call 26; refine HI1.out.mono ?_; rintro e w5 ⟨rfl, rfl⟩)
                                | (go_at_call 27; refine HC1.out.mono ?_; rintro e w5 ⟨rfl, rfl⟩))
                              go_roundw
                              case rel => exact ⟨j + 1, Ax, nx, cx, by omega, by go_num, hnxc, by omega, by rw [HNX3.out]; exact HNX2, HX.out, by rw [HNX3.out]; exact HO.out, HWx.out⟩
                              case measure => simp [intOf]; omega
                            | true =>
                              have HNX3 : Hid (mvK ss x1 ids (j + 1) = mvK ss x1 ids j ++ [(j : Int)]) := Lib.hid (by rw [hnx, decide_eq_true hR0]; rfl)
                              clear hnx
                              go_wp2_with (first
                                | (go_at_call 26; refine HI1.out.mono ?_; rintro e w5 ⟨rfl, rfl⟩)
                                | (go_at_call 27; refine HC1.out.mono ?_; rintro e w5 ⟨rfl, rfl⟩)
                                | (at_builtin; refine wpList_pushI rfl (.tmp 158) (.tmp 160) rfl (HO.out.alloc _) ((sat_noF _).alloc _) (by rfl) wr.heap.size 1 (j : Int) (by rfl) (Blk.new _ _ _) (by omega) (by have := HWx.out.size; simp; omega) ?_; intro v6 w6 hO6 hF6 hb6 hg6 hat6; rw [← HNX3.out] at hO6; obtain ⟨A6, c6, hv6, hc6⟩ := hO6.shape; subst hv6; have hX6 := (HX.out.alloc (.cells #[.int .i64 (j : Int)] 3)).below hb6 (by omega); obtain ⟨k0, k1, k2, k3⟩ := blk2E hX6))
                              have hX7 := hX6.set_ 1 (.slice A6 (nx + 1) c6)
                              have hO7 := hO6.setFar (a := ⟨gx, 1, none⟩) (fun e => by have h := (hO6.1.lt _ e).1; have h : N.heap.size ≤ gx := h; omega) (.slice A6 (nx + 1) c6)
                              have hW7 := ((HWx.out.alloc (.cells #[.int .i64 (j : Int)] 3)).belM hb6 (Nat.le_refl _)).set (g := gx) (by simp) 1 (.slice A6 (nx + 1) c6)
                              clear hX6 hO6 hF6 hb6 hg6 hat6
                              go_wp2_with fail
                              go_roundw
                              case rel => exact ⟨j + 1, A6, nx + 1, c6, by omega, by go_num, hc6, by omega, Lib.hid (by rw [HNX3.out, List.length_append, HNX2.out]; rfl), hX7, hO7, hW7⟩
                              case measure => simp [intOf]; omega
                          · have hR1 : decide (0 ≤ R) = false := decide_eq_false hR0
                            have HNX3 : Hid (mvK ss x1 ids (j + 1) = mvK ss x1 ids j) := Lib.hid (by rw [hnx, hR1]; simp)
                            clear hnx
                            go_wp2_with (go_at_call 26; refine HI1.out.mono ?_; rintro e w5 ⟨rfl, rfl⟩)
                            go_roundw
                            case rel => exact ⟨j + 1, Ax, nx, cx, by omega, by go_num, hnxc, by omega, by rw [HNX3.out]; exact HNX2, HX.out, by rw [HNX3.out]; exact HO.out, HWx.out⟩
                            case measure => simp [intOf]; omega
                        · obtain rfl : no = j := by omega
                          have hdec : decide ((no : Int) < (no : Int)) = false := decide_eq_false (by omega)
                          obtain ⟨w0, w1', w2, w3⟩ := blk2E hX
                          have hOr : mvK ss x1 ids ss.length = mvK ss x1 ids no := by rw [HN.out]
                          obtain ⟨I, hI⟩ : ∃ I, mvK ss x1 ids no = I := ⟨_, rfl⟩
                          rw [hI] at HNX2 hO hOr
                          -- the state of the great loop, behind the little one
                          have hWA : Wr [ga, gx] N wr := hWx.more (by simp)
                          have hOEx : OwnE wr W.heap.size (.slice Av L cv) ev := HOE.out.keep (fun q hq1 hq2 => (hWx.block q (by have := HWn.out.size; omega) (by have := HGE.out; simp; omega)).trans (HWn.out.block q hq2 (by simp; omega)))
                          have hGx : Blk wr (w.heap.size + 1) 27 #[.slice Ao no co, .slice Av L cv] := hWx.blk (HWn.out.blk HG.out (by simp; omega)) (by simp; omega)
                          have hAx := hWx.blk HAn.out (by simp; omega)
                          have hWall : Wr [w.heap.size + 1, ga] W wr := ⟨hWx.os.trans (HWn.out.os.trans HWr.out.os), hWx.tape.trans (HWn.out.tape.trans HWr.out.tape), hWx.output.trans (HWn.out.output.trans HWr.out.output), Nat.le_trans HWr.out.size (Nat.le_trans HWn.out.size hWx.size), fun q hq1 hq2 => by
                            have h1 := HWr.out.block q hq1 hq2
                            have hs1 := HWr.out.size
                            have hs2 := HWn.out.size
                            have hge := HGE.out
                            simp at hq2
                            exact (hWx.block q (by omega) (by simp; omega)).trans ((HWn.out.block q (by omega) (by simp; omega)).trans h1)⟩
                          obtain ⟨A9, c9, e9, hc9, hr9⟩ := hO.rdH
                          injection e9 with e91 _ e93
                          subst e91 e93
                          have hfr9 : ∀ a, Ax = some a → N.heap.size ≤ a.block := fun a ha => hO.fresh a ha
                          have hOl := HOE.out.lt
                          obtain ⟨k0, k1, k2, k3⟩ := blk2E hGx
                          have HOEx := Lib.hid hOEx
                          have HAx := Lib.hid hAx
                          have HWall := Lib.hid hWall
                          have HGx := Lib.hid hGx
                          have HR9 := Lib.hid hr9
                          have HT := Lib.hid ht
                          have hgxl := hX.lt
                          have hg1l := hGx.lt
                          clear hOEx hAx hWall hGx hr9 hWA hX hO hWx
                          go_wp2_with (at_builtin; refine wpList_of_step (step_pushE rfl (.tmp 165) (.tmp 167) (by rfl) (B := W.heap.size) (v := .slice Av L cv) (es := ev) (HOEx.out.alloc _) (by rfl) ⟨T, I⟩ HT.out Ax cx (by rw [HNX2.out]; exact hnxc) (by rw [HNX2.out]; exact rd_call HR9.out (balloc _ _)) (fun h0 a ha => ⟨by have h1 := hfr9 a ha; have := HWn.out.size; have := HWr.out.size; omega, fun q => by have h1 := hfr9 a ha; have h2 := (hOl _ q).2; have := HWn.out.size; omega⟩) _ 1 (by rfl) (by rw [HNX2.out]; exact Blk.new wr _ _) (by rw [HEL.out]; omega) (by have := HWall.out.size; simp; omega) ?_); intro v6 w6 hO6 hb6 hg6 hat6; obtain ⟨A6, c6, hv6, hc6⟩ := hO6.shape; rw [List.length_append, HEL.out, List.length_singleton] at hv6 hc6; subst hv6; have hG6 := (HGx.out.alloc (.cells #[.int .u64 (T : Nat), .slice Ax nx cx] 31)).grown hg6 (fun q => by have := (hOl _ q.symm).1; omega); obtain ⟨n0, n1, n2, n3⟩ := blk2E hG6)
                          have hG7 := hG6.set_ 1 (.slice A6 (L + 1) c6)
                          have hO7 := hO6.set (p := ⟨w.heap.size + 1, 1, none⟩) (show w.heap.size + 1 < W.heap.size by omega) (.slice A6 (L + 1) c6)
                          have hA7 := ((HAx.out.alloc (.cells #[.int .u64 (T : Nat), .slice Ax nx cx] 31)).below hb6 hgaW).far (p := ⟨w.heap.size + 1, 1, none⟩) (show ga ≠ w.heap.size + 1 by omega) (.slice A6 (L + 1) c6)
                          have hW7 := ((HWall.out.alloc (.cells #[.int .u64 (T : Nat), .slice Ax nx cx] 31)).belM hb6 (Nat.le_refl _)).set (g := w.heap.size + 1) (by simp) 1 (.slice A6 (L + 1) c6)
                          have HM1 : Hid (mvE ss ls (b, ⟨T, ids⟩) = ⟨T, I⟩) := Lib.hid (by rw [show mvE ss ls (b, ⟨T, ids⟩) = ⟨T, mvK ss x1 ids ss.length⟩ from HMV.out, hOr])
                          have HEV7 : Hid ((ev ++ [(⟨T, I⟩ : Evt)]) ++ (mergeS tmV (sumLn (rowsK ls (us.set b (v + 1)))) (rowsK ls (us.set b (v + 1)))).map (mvE ss ls) = (mergeT ls).2) := Lib.hid (by rw [← HEV.out, HNX.out, List.map_cons, HM1.out]; simp)
                          have hevn : evL (w.heap.size + 1) ((w6.setCell ⟨w.heap.size + 1, 1, none⟩ (.slice A6 (L + 1) c6))) = L + 1 := by
                            obtain ⟨_, k1, _, _⟩ := blk2E hG7
                            unfold evL
                            rw [k1]
                          clear hG6 hO6 hb6 hg6 hat6
                          go_wp2_with fail
                          go_roundw
                          case rel => exact ⟨us.set b (v + 1), ev ++ [⟨T, I⟩], A6, L + 1, c6, Lib.hid (by simp [HUS.out]), hA7, HEV7, Lib.hid (by rw [List.length_append, HEL.out]; rfl), hc6, hG7, hO7, hW7⟩
                          case measure =>
                            show TOT - evL (w.heap.size + 1) _ < TOT - evL (w.heap.size + 1) wq
                            rw [hevn, hevq]; omega
end Go.Proofs.Ytgmbicjcfhmcdaa
