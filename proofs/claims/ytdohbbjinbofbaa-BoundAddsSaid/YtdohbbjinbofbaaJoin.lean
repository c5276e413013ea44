/- What a node over some lists is. Plain lemmas. -/
import Derived.Test.YtdohbbjinbofbaaTreeP
import Derived.Test.YtdohbbjinbofbaaMay
import Derived.Test.YtdohbbjinbofbaaOver
set_option linter.unusedVariables false
set_option linter.unusedSimpArgs false
/-! What a node over some lists is. Plain lemmas. -/
namespace Go.Proofs.Ytdohbbjinbofbaa
def accL : List (List Nd) → List Nd × List Int := fun ls => ls.foldl (fun p l => (p.1 ++ l.map (shiftN (p.1.length : Int)), p.2 ++ [(p.1.length : Int) + (l.length : Int) - 1])) ([], [])
theorem accL_snoc (ls : List (List Nd)) (l : List Nd) : accL (ls ++ [l]) = ((accL ls).1 ++ l.map (shiftN ((accL ls).1.length : Int)), (accL ls).2 ++ [((accL ls).1.length : Int) + (l.length : Int) - 1]) := by simp [accL, List.foldl_append]
def rawJ (n : Nd) (ls : List (List Nd)) : List Nd := (accL ls).1 ++ [{ n with kids := (accL ls).2 }]
def joinL (n : Nd) (ls : List (List Nd)) : List Nd := if ls.all mayS = true ∧ mayS (rawJ n ls) = true then rawJ n ls else []
theorem shiftN_zero (l : List Nd) : l.map (shiftN 0) = l := by
  have : ∀ n : Nd, shiftN 0 n = n := fun n => by
    have h : n.kids.map (· + 0) = n.kids := by
      rw [List.map_congr_left (g := id) (fun k _ => by simp)]
      simp
    cases n
    simp only [shiftN, Nd.mk.injEq, true_and]
    exact h
  rw [List.map_congr_left (g := id) (fun n _ => this n)]
  simp
theorem acc_kids (ls : List (List Nd)) : (accL ls).2.length = ls.length := by
  suffices ∀ (ls : List (List Nd)) (p : List Nd × List Int), (ls.foldl (fun p l => (p.1 ++ l.map (shiftN (p.1.length : Int)), p.2 ++ [(p.1.length : Int) + (l.length : Int) - 1])) p).2.length = p.2.length + ls.length by
    have h := this ls ([], [])
    simpa [accL] using h
  intro ls
  induction ls with
  | nil => intro p; simp
  | cons l ls ih => intro p; rw [List.foldl_cons, ih]; simp; omega
theorem acc_len (ls : List (List Nd)) : (accL ls).1.length = (ls.map List.length).sum := by
  suffices ∀ (ls : List (List Nd)) (p : List Nd × List Int), (ls.foldl (fun p l => (p.1 ++ l.map (shiftN (p.1.length : Int)), p.2 ++ [(p.1.length : Int) + (l.length : Int) - 1])) p).1.length = p.1.length + (ls.map List.length).sum by
    have h := this ls ([], [])
    simpa [accL] using h
  intro ls
  induction ls with
  | nil => intro p; simp
  | cons l ls ih => intro p; rw [List.foldl_cons, ih]; simp; omega
theorem may_ne {l : List Nd} (h : mayS l = true) : l.length ≠ 0 := by
  unfold mayS at h
  cases ht : treeS l with
  | none => rw [ht] at h; cases h
  | some t => have := tree_len ht; have := t.size_pos; omega
theorem may_snoc_fields {l : List Nd} {n : Nd} (h : mayS (l ++ [n]) = true) : fieldsS n = true := by
  unfold mayS at h
  cases ht : treeS (l ++ [n]) with
  | none => rw [ht] at h; cases h
  | some t =>
    have hp := tree_parse ht
    rw [parse_snoc] at hp
    cases h1 : parseS l with
    | none => rw [h1] at hp; cases hp
    | some st => rw [h1] at hp; exact (pushS_some hp).1
theorem join_arity {n : Nd} {ls : List (List Nd)} (h : arityS n.kind ≠ (ls.length : Int)) : joinL n ls = [] := by
  unfold joinL
  rw [if_neg]
  rintro ⟨_, h2⟩
  have h3 := fields_kids (may_snoc_fields h2)
  simp only at h3
  rw [acc_kids] at h3
  exact h h3.symm
theorem raw0 (n : Nd) : rawJ n [] = overL n [] [] := by simp [rawJ, accL, overL, overK]
theorem raw1 (n : Nd) (a : List Nd) (ha : a.length ≠ 0) : rawJ n [a] = overL n a [] := by
  simp only [rawJ, accL, overL, overK, List.foldl_cons, List.foldl_nil, List.nil_append, List.length_nil, Int.ofNat_zero, shiftN_zero, List.map_nil, List.append_nil]
  rw [if_neg ha]
  simp
theorem raw2 (n : Nd) (a b : List Nd) (ha : a.length ≠ 0) (hb : b.length ≠ 0) : rawJ n [a, b] = overL n a b := by
  simp only [rawJ, accL, overL, overK, List.foldl_cons, List.foldl_nil, List.nil_append, List.length_nil, Int.ofNat_zero, shiftN_zero, List.length_append, List.length_map]
  rw [if_neg ha, if_neg hb]
  simp
end Go.Proofs.Ytdohbbjinbofbaa
/-! The walk of tree.Join. -/
namespace Go.Proofs.Ytdohbbjinbofbaa
open Go.RowKit
/-- A list of lists of nodes, all frozen. -/
def RowsN (F : Fz) (A : Option Addr) (k : Nat) (ls : List (List Nd)) : Prop :=
  ls.length = k ∧ (0 < k → ∃ ad, A = some ad ∧ ∀ i (h : i < ls.length), ∃ Ai ci, F.cell (ad.add i) = some (.slice Ai ls[i].length ci) ∧ ls[i].length ≤ ci ∧ NodesF F Ai ls[i].length ls[i])
theorem RowsN.cle {F F' : Fz} {A : Option Addr} {k : Nat} {ls : List (List Nd)} (h : RowsN F A k ls) (hle : CLe F F') : RowsN F' A k ls :=
  ⟨h.1, fun hk => let ⟨ad, e, hc⟩ := h.2 hk; ⟨ad, e, fun i hi => let ⟨Ai, ci, h1, h2, h3⟩ := hc i hi; ⟨Ai, ci, hle _ _ h1, h2, h3.cle hle⟩⟩⟩
theorem may_kidsB {l : List Nd} (hn : l.length ≤ 1000) (h : mayS l = true) : KidsB l := by
  unfold mayS at h
  cases ht : treeS l with
  | none => rw [ht] at h; cases h
  | some t => exact KidsB.of hn ht
theorem all_take {ls : List (List Nd)} {m : Nat} (hm : m < ls.length) (h1 : (ls.take m).all mayS = true) (h2 : mayS ls[m] = true) : (ls.take (m + 1)).all mayS = true := by
  rw [List.take_succ_eq_append_getElem hm, List.all_append, h1]
  simp [h2]
theorem sum_take_le (ls : List (List Nd)) (m : Nat) : ((ls.take m).map List.length).sum ≤ (ls.map List.length).sum := by
  have h := List.take_append_drop m ls
  have : (ls.map List.length).sum = ((ls.take m).map List.length).sum + ((ls.drop m).map List.length).sum := by rw [← List.sum_append, ← List.map_append, h]
  omega
set_option maxRecDepth 100000 in
set_option maxHeartbeats 4000000 in
theorem join_w {F : Fz} {w : World} (hF : Sat F w) (n : Nd) (Ak : Option Addr) (nk ck : Nat) (ls : List (List Nd)) (hnl : (ls.map List.length).sum ≤ 999) (hll : ls.length ≤ 1000) (R : Option Addr) (nr cr : Nat) (hR : RowsN F R nr ls) :
    Calls Try.prog 24 #[.agg #[.int .i64 n.kind, .string n.name, .int .i64 n.lo, .int .i64 n.hi, .slice Ak nk ck], .slice R nr cr] w (RetN F w (joinL n ls)) := by
  obtain ⟨hlr, hR2⟩ := hR
  have HLR := Lib.hid hlr
  have hnr : nr ≤ 1000 := by omega
  have hBX := Blk.new w 30 #[.int .i64 n.kind, .string n.name, .int .i64 n.lo, .int .i64 n.hi, .slice Ak nk ck]
  have fzx := hBX.frozen 4
  have hFx : F w.heap.size = none := hF.none_ (Nat.le_refl _)
  have HFX := Lib.hid hFx
  clear hlr hFx
  go_enter Try.func24, Try.ntmps24
  go_wp2_with fail
  go_loopw [5, 7, 11] (fun o _ i wr => ∃ (m : Nat) (F' : Fz) (A5 : Option Addr) (lo c5 : Nat) (A8 : Option Addr) (c8 : Nat), m ≤ nr ∧ i = .int .i64 m ∧ o = .slice A5 lo c5 ∧ lo ≤ c5 ∧ Hid ((accL (ls.take m)).1.length = lo) ∧ Hid ((ls.take m).all mayS = true) ∧ Below w.heap.size w wr ∧ Sat F' wr ∧ Fle w F F' ∧ Hid (F' w.heap.size = none) ∧ OwnN F' wr (w.heap.size + 1) (.slice A5 lo c5) (accL (ls.take m)).1 ∧ Own F' wr (w.heap.size + 1) 3 1 (.slice A8 m c8) m ((accL (ls.take m)).2.map (Value.int .i64)) ∧ Apart (.slice A5 lo c5) (.slice A8 m c8) ∧ Blk wr w.heap.size 30 #[.int .i64 n.kind, .string n.name, .int .i64 n.lo, .int .i64 n.hi, .slice A8 m c8]) (fun _ _ i _ => nr - (intOf i).toNat)
  case atStart => exact ⟨0, F, none, 0, 0, none, 0, Nat.zero_le _, rfl, rfl, Nat.le_refl _, Lib.hid rfl, Lib.hid rfl, balloc _ _, hF.alloc _, Fle.refl _ _, HFX, OwnN.nil _ _ _, Own.nil _ _ _ _ _, apart_nil _, Blk.new _ _ _⟩
  case round =>
    obtain ⟨m, F', A5, lo, c5, A8, c8, hm, rfl, rfl, hc5, HLO, HALL, hbl, hF', hle, hfx, hON, hO, hap, hB⟩ := hrel
    clear hBX fzx
    obtain ⟨W, hW⟩ : ∃ W, W = wr := ⟨_, rfl⟩
    subst hW
    have hgr := fun g (h : (Value.slice A5 lo c5).ownBlock = some g) => hON.lt g h
    have hgr8 := fun g (h : (Value.slice A8 m c8).ownBlock = some g) => hO.1.lt g h
    have hWz := hbl.size
    have hWx := hB.lt
    have hlo : lo ≤ 999 := by rw [← HLO.out, acc_len]; exact Nat.le_trans (sum_take_le ls m) hnl
    by_cases hlt : m < nr
    · have hml : m < ls.length := by rw [HLR.out]; exact hlt
      obtain ⟨ad, rfl, hL⟩ := hR2 (by omega)
      obtain ⟨Ai, ci, hcell, hci, hNi⟩ := hL m hml
      have hcz := (hF.below hbl).cell hcell
      have hltI : (m : Int) < (nr : Int) := by omega
      have hl1 : ls[m].length ≤ 999 := by
        have h1 := sum_take_le ls (m + 1)
        rw [List.take_succ_eq_append_getElem hml, List.map_append, List.sum_append] at h1
        simp at h1
        omega
      have hl2 : lo + ls[m].length ≤ 999 := by
        have h1 := sum_take_le ls (m + 1)
        rw [List.take_succ_eq_append_getElem hml, List.map_append, List.sum_append, ← acc_len, HLO.out] at h1
        simp at h1
        omega
      have hacc := accL_snoc (ls.take m) ls[m]
      rw [← List.take_succ_eq_append_getElem hml, HLO.out] at hacc
      have hall := all_take hml HALL.out
      have hbad : mayS ls[m] = false → joinL n ls = [] := fun h => by
        unfold joinL
        rw [if_neg]
        rintro ⟨h1, _⟩
        rw [List.all_eq_true] at h1
        rw [h1 _ (List.getElem_mem hml)] at h
        cases h
      generalize hlm : ls[m] = l at *
      cases hmay : mayS l
      · have HM := Lib.hid (fun (X : World) (h : Sat F X) => may_w h l (by omega) Ai l.length ci hNi _ hmay)
        have HB := Lib.hid (hbad hmay)
        clear hbad hall hacc hmay hlm hL hcell
        go_wp2_with (go_at_call 59; refine (HM.out _ (hF.below hbl)).mono ?_; rintro e w' ⟨rfl, hw⟩)
        go_ret
        rw [HB.out]
        exact retN_nil (bthen hbl hw) hF
      · have HM := Lib.hid (fun (X : World) (h : Sat F X) => may_w h l (by omega) Ai l.length ci hNi _ hmay)
        have HALL2 := Lib.hid (hall hmay)
        have hV := fun (X : World) (F1 : Fz) (h : Sat F1 X) (hc : CLe F F1) => moved_w h l (by omega) Ai l.length ci (hNi.cle hc) (may_kidsB (by omega) hmay) (lo : Int) (by omega) (by omega)
        have HV := Lib.hid hV
        have HACC1 : Hid ((accL (ls.take m)).1 ++ l.map (shiftN (lo : Int)) = (accL (ls.take (m + 1))).1) := Lib.hid (by rw [hacc])
        have HACC2 : Hid ((accL (ls.take m)).2 ++ [(lo : Int) + (l.length : Int) - 1] = (accL (ls.take (m + 1))).2) := Lib.hid (by rw [hacc])
        have hlml : (l.map (shiftN (lo : Int))).length = l.length := by simp
        have hl3 : (accL (ls.take m)).1.length + l.length ≤ 1000000 := by rw [HLO.out]; omega
        have hl4 : (accL (ls.take (m + 1))).1.length = lo + l.length := by rw [hacc, List.length_append, HLO.out, hlml]
        have HL4 := Lib.hid hl4
        have HLM := Lib.hid hlml
        clear hbad hall hacc hmay hlm hL hcell hV hl4 hlml
        go_wp2_with (first | (go_at_call 59; refine (HM.out _ (hF.below hbl)).mono ?_; rintro e w1 ⟨rfl, hw⟩; have hON1 := hON.call hw; have hB1 := hB.call hw; have hO1 := hO.call hw; have hwz := hw.size) | (go_at_call 46; refine (HV.out _ F' (hF'.below hw) hle.cle).mono ?_; rintro e w2 ⟨A2, c2, F2, rfl, hc2, hN2, hw2, hF2, hle2⟩; have hON2 := (hON1.le hle2).call hw2; have hO2 := (hO1.le hle2).call hw2; have hB2 := hB1.call hw2; have hw2z := hw2.size; have hfx2 := (hle2.2 w.heap.size (by omega)).trans hfx.out; rw [HLM.out] at hN2) | (at_builtin; refine wpList_allN rfl (.tmp 18) (.tmp 22) rfl hON2 hF2 (by rfl) A2 l.length c2 (l.map (shiftN (lo : Int))) (by rfl) hN2 hl3 (by omega) ?_; intro v3 w3 hON3 hF3 hb3 hg3 hat3; rw [HACC1.out] at hON3; obtain ⟨A5', c5', hv3, hc5'⟩ := hON3.shape; rw [HL4.out] at hv3 hc5'; subst hv3; have hO3 := hO2.kept hg3 hap.or; have hB3 := hB2.grown hg3 (fun e => by have := hgr _ e.symm; omega); have hap3 := hap.push (fun g h => by have := hgr8 g h; omega) hat3; have hgr5 := fun g h => hON3.lt g h; have hz3 := hb3.size; have fz3 := hB3.frozen 4; obtain ⟨f0, f1, f2, f3, f4⟩ := blk5 hB3) | (at_builtin; refine wpList_pushI rfl (.tmp 25) (.tmp 29) rfl (hO3.alloc _) (hF3.alloc _) (by rfl) w3.heap.size 1 ((lo : Int) + (l.length : Int) - 1) (by rfl) (Blk.new _ _ _) (by omega) (by simp; omega) ?_; intro v4 w4 hO4 hF4 hb4 hg4 hat4; rw [HACC2.out] at hO4; obtain ⟨A8', c8', rfl, hc8'⟩ := hO4.shape; have hON4 := (hON3.alloc _).kept hg4 hap3.symm.or; have hB4 := (hB3.alloc _).grown hg4 (fun e => by have := hgr8 _ e.symm; omega); have hap4 := (hap3.symm.push (fun g h => by have := hgr5 g h; simp; omega) hat4).symm; have hgr9 := fun g h => hO4.1.lt g h; have fz4 := hB4.frozen 4; have k4 := hB4.cell 4; rw [show (#[Value.int .i64 n.kind, .string n.name, .int .i64 n.lo, .int .i64 n.hi, .slice A8 m c8])[4]? = some (.slice A8 m c8) from rfl] at k4))
        go_roundw
        case rel =>
          have q2 : Below w.heap.size w w2 := bthen (bthen hbl hw) hw2
          have q3 : Below w.heap.size w w3 := q2.trans (hb3.mono (Nat.le_succ _))
          have q4 := (q3.alloc (o := .cells #[.int .i64 ((lo : Int) + (l.length : Int) - 1)] 3) q3.size).trans (hb4.mono (Nat.le_succ _))
          exact ⟨m + 1, F2, A5', lo + l.length, c5', A8', c8', by omega, by go_num, rfl, hc5', HL4, HALL2, q4.setCell (Nat.le_refl _) _, hF4.setCell hfx2 _, hle.trans hle2 (bthen hbl hw).size, Lib.hid hfx2, hON4.setFar (a := ⟨w.heap.size, 4, none⟩) (fun e => absurd (hgr5 _ e).1 (by show ¬ (w.heap.size + 1 ≤ w.heap.size); omega)) _, hO4.setFar (a := ⟨w.heap.size, 4, none⟩) (fun e => absurd (hgr9 _ e).1 (by show ¬ (w.heap.size + 1 ≤ w.heap.size); omega)) _, hap4, hB4.set_ 4 _⟩
        case measure => simp [intOf]; omega
    · obtain rfl : m = nr := by omega
      have hdec : decide ((m : Int) < (m : Int)) = false := decide_eq_false (by omega)
      have htl : ls.take m = ls := by rw [← HLR.out, List.take_length]
      rw [htl] at hON hO HALL HLO
      clear htl
      obtain ⟨F3, A2, c2', he, hc2', hRd, hF3, hle3, hFb⟩ := hO.ints2 hF' w (by omega)
      have hkl : (accL ls).2.length = m := by rw [acc_kids, HLR.out]
      rw [hkl] at he hc2' hRd
      injection he with e1 _ e3
      subst e1 e3
      obtain ⟨f0, f1, f2, f3, f4⟩ := blk5 hB
      have hON3 := hON.le2 hle3.cle (fun g h => hFb g (hap g h))
      have hBN : Blk (W.alloc (.cells #[.int .i64 n.kind, .string n.name, .int .i64 n.lo, .int .i64 n.hi, .slice A8 m c8] 30)) W.heap.size 30 #[.int .i64 n.kind, .string n.name, .int .i64 n.lo, .int .i64 n.hi, .slice A8 (accL ls).2.length c8] := by
        rw [hkl]
        exact Blk.new _ _ _
      have hln : (accL ls).1.length + 1 ≤ 1000000 := by rw [HLO.out]; omega
      have hfin : rawJ n ls = (accL ls).1 ++ [{ n with kids := (accL ls).2 }] := rfl
      have hlf : (rawJ n ls).length = lo + 1 := by rw [hfin, List.length_append, HLO.out]; rfl
      have hjy : mayS (rawJ n ls) = true → joinL n ls = rawJ n ls := fun h => by unfold joinL; rw [if_pos ⟨HALL.out, h⟩]
      have hjn : mayS (rawJ n ls) = false → joinL n ls = [] := fun h => by unfold joinL; rw [if_neg]; rintro ⟨_, h2⟩; rw [h2] at h; cases h
      rw [← hkl] at hc2'
      rw [← hkl] at hRd
      have HBN := Lib.hid hBN
      have HFIN := Lib.hid hfin
      have HLF := Lib.hid hlf
      have HRD := Lib.hid hRd
      have HC2 := Lib.hid hc2'
      clear hfin hlf hkl hRd hc2' hBN
      cases hmay : mayS (rawJ n ls)
      · have HJ := Lib.hid (hjn hmay)
        have HM := Lib.hid (fun (X : World) (G : Fz) (h : Sat G X) (A : Option Addr) (c : Nat) (hN : NodesF G A (rawJ n ls).length (rawJ n ls)) => may_w h (rawJ n ls) (by rw [HLF.out]; omega) A _ c hN _ hmay)
        clear hjn hjy hmay
        go_wp2_with (first | (at_builtin; refine wpList_pushN rfl (.tmp 33) (.tmp 35) rfl (hON3.alloc _) (hF3.alloc _) (by rfl) W.heap.size 1 { n with kids := (accL ls).2 } A8 c8 (by rfl) HBN.out HC2.out HRD.out hln (by simp; omega) ?_; intro v2 w2 hO2 hFF hb2 hg2 hat2; rw [← HFIN.out] at hO2; obtain ⟨F5, A9, c9, hv9, hc9, hN5, hF5, hle5, _⟩ := hO2.freeze hFF w (by omega); have HM2 := Lib.hid (HM.out w2 F5 hF5 A9 c9 hN5); rw [HLF.out] at hv9 HM2; subst hv9) | (go_at_call 59; refine HM2.out.mono ?_; rintro e w5 ⟨rfl, hw5⟩))
        go_ret
        rw [HJ.out]
        exact retN_nil ((hbl.trans (((balloc _ _).mono hWz).trans (hb2.mono (by omega)))).trans (hw5.mono (by have := hb2.size; simp at this; omega))) hF
      · have HJ := Lib.hid (hjy hmay)
        have HM := Lib.hid (fun (X : World) (G : Fz) (h : Sat G X) (A : Option Addr) (c : Nat) (hN : NodesF G A (rawJ n ls).length (rawJ n ls)) => may_w h (rawJ n ls) (by rw [HLF.out]; omega) A _ c hN _ hmay)
        clear hjn hjy hmay
        go_wp2_with (first | (at_builtin; refine wpList_pushN rfl (.tmp 33) (.tmp 35) rfl (hON3.alloc _) (hF3.alloc _) (by rfl) W.heap.size 1 { n with kids := (accL ls).2 } A8 c8 (by rfl) HBN.out HC2.out HRD.out hln (by simp; omega) ?_; intro v2 w2 hO2 hFF hb2 hg2 hat2; rw [← HFIN.out] at hO2; obtain ⟨F5, A9, c9, hv9, hc9, hN5, hF5, hle5, _⟩ := hO2.freeze hFF w (by omega); have HM2 := Lib.hid (HM.out w2 F5 hF5 A9 c9 hN5); rw [HLF.out] at hv9 HM2; subst hv9) | (go_at_call 59; refine HM2.out.mono ?_; rintro e w5 ⟨rfl, hw5⟩))
        go_ret
        rw [HJ.out]
        exact ⟨A9, c9, F5, by rw [HLF.out] <;> rfl, hc9, hN5, (hbl.trans (((balloc _ _).mono hWz).trans (hb2.mono (by omega)))).trans (hw5.mono (by have := hb2.size; simp at this; omega)), hF5.below hw5, (hle.trans hle3 (Nat.le_refl _)).trans hle5 (Nat.le_refl _)⟩
end Go.Proofs.Ytdohbbjinbofbaa
