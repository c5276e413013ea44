/- The reference's Truths and All of layer 14. -/
import Derived.Test.YtdbbooibkiicnaaGreatTruth14
import Derived.Test.YtdbbooibkiicnaaGreatTruthN
import Derived.Test.YtdbbooibkiicnaaGreatRReach
set_option linter.unusedVariables false
set_option linter.unusedSimpArgs false
namespace Go.Proofs.YtdbbooibkiicnaaGreat
open Go.RowKit
attribute [local go_sem ↓] Go.wp_at_zero Go.wp_at_succ
theorem node_kind {l : List Nd} {t : Tr} (ht : treeS l = some t) {i : Nat} (hi : i < t.size) (hil : i < l.length) : l[i].kind = (t.sub i).root.kind ∧ 1 ≤ (t.sub i).root.kind := by
  have hroot := get_flat_root ht i hil
  have hvx := sub_valid t i (tree_valid ht)
  refine ⟨by rw [hroot], ?_⟩
  cases hx : t.sub i with
  | leaf hd =>
    rw [hx] at hvx
    obtain ⟨ha, _⟩ := fields_arity (show fieldsS { hd with kids := [] } = true from hvx)
    show 1 ≤ hd.kind
    rcases arity0 ha.symm with e | e | e | e <;> omega
  | un hd a =>
    rw [hx] at hvx
    simp only [validT, Bool.and_eq_true, beq_iff_eq] at hvx
    obtain ⟨ha, _⟩ := fields_arity hvx.1.1
    show 1 ≤ hd.kind
    rcases arity1 ha.symm with e | e | e | e | e | e <;> omega
  | bin hd a b =>
    rw [hx] at hvx
    simp only [validT, Bool.and_eq_true, beq_iff_eq] at hvx
    obtain ⟨ha, _⟩ := fields_arity hvx.1.1.1.1
    show 1 ≤ hd.kind
    rcases arity2 ha.symm with e | e | e | e | e | e | e <;> omega
/-- truth of a node that is a formula, by whatever kind. -/
theorem truth14_w {F : Fz} {w : World} (hF : Sat F w) {ss : List ByteArray} {es : List Evt} {An : Option Addr} {nn cn : Nat} {Ae : Option Addr} {ne ce : Nat} (hT : RefT F ss es An nn cn Ae ne ce)
    (l : List Nd) (hN : l.length ≤ 1000) (Al : Option Addr) (N cl : Nat) (hcl : N ≤ cl) (hl : NodesF F Al N l) {t : Tr} (ht : treeS l = some t) (ga : Nat) (i : Nat) (hi : i < t.size)
    (hrows : ∀ q, q < i → regS (t.sub q).root.kind = false → AtF F ga ne (fun q => satT (trcE ss es) (t.sub q)) q) (hreg : regS (t.sub i).root.kind = false) :
    Calls Tryz.prog 75 #[.agg #[.slice An nn cn, .slice Ae ne ce], .slice Al N cl, .int .i64 (i : Nat), .slice (some ⟨ga, 0, none⟩) N N, .int .i64 (ne : Nat)] w (RetRow w ne (satT (trcE ss es) (t.sub i))) := by
  have hil : i < l.length := by have := tree_len ht; omega
  obtain ⟨hkd, _⟩ := node_kind ht hi hil
  by_cases hk : (t.sub i).root.kind = 16 ∨ (t.sub i).root.kind = 17
  · cases hx : t.sub i with
    | leaf hd =>
      exfalso
      have hvx := sub_valid t i (tree_valid ht)
      rw [hx] at hvx hk
      obtain ⟨ha, _⟩ := fields_arity (show fieldsS { hd with kids := [] } = true from hvx)
      have hk' : hd.kind = 16 ∨ hd.kind = 17 := hk
      rcases arity0 ha.symm with e | e | e | e <;> omega
    | bin hd a b =>
      exfalso
      have hvx := sub_valid t i (tree_valid ht)
      rw [hx] at hvx hk
      simp only [validT, Bool.and_eq_true, beq_iff_eq] at hvx
      obtain ⟨ha, _⟩ := fields_arity hvx.1.1.1.1
      have hk' : hd.kind = 16 ∨ hd.kind = 17 := hk
      rcases arity2 ha.symm with e | e | e | e | e | e | e <;> omega
    | un hd a =>
      rw [hx] at hk
      have := truthM_w hF hT l hN Al N cl hcl hl ht ga i hi hrows hd a hx hk
      rw [hx] at this
      exact this
  · obtain ⟨nd, hnd⟩ : ∃ nd, l[i] = nd := ⟨_, rfl⟩
    rw [hnd] at hkd
    obtain ⟨kind, name, lo, hi', kk⟩ := nd
    dsimp only at hkd
    exact truthN_w hF hT l Al N cl hl hN ht ga i hi hrows kind name lo hi' kk (by rw [List.getElem?_eq_getElem hil, hnd]) hreg ⟨fun e => hk (.inl (by rw [← hkd, e])), fun e => hk (.inr (by rw [← hkd, e]))⟩
set_option maxRecDepth 100000 in
set_option maxHeartbeats 8000000 in
theorem truths14_w {F : Fz} {w : World} (hF : Sat F w) {ss : List ByteArray} {es : List Evt} {An : Option Addr} {nn cn : Nat} {Ae : Option Addr} {ne ce : Nat} (hT : RefT F ss es An nn cn Ae ne ce)
    (l : List Nd) (hN : l.length ≤ 1000) (Al : Option Addr) (N cl : Nat) (hcl : N ≤ cl) (hl : NodesF F Al N l) {t : Tr} (ht : treeS l = some t) (isF : Nat → Bool) (hisF : isF = fun q => !regS (t.sub q).root.kind) (S : Nat → Nat → Bool) (hS : S = fun q => satT (trcE ss es) (t.sub q)) :
    Calls Tryz.prog 44 #[.agg #[.slice An nn cn, .slice Ae ne ce], .slice Al N cl] w fun e w' => ∃ ga, e = .returned (.slice (some ⟨ga, 0, none⟩) N N) ∧ w.heap.size ≤ ga ∧ AtR w' ga N ne N isF S ∧ Below w.heap.size w w' := by
  have hlen := tree_len ht
  have hNN : N = t.size := by have := hl.1; omega
  have hNb : N ≤ 1000 := by omega
  have hkind : ∀ i (hi : i < l.length), l[i].kind = (t.sub i).root.kind ∧ formS l[i].kind = isF i := fun i hi => by
    obtain ⟨h1, h2⟩ := node_kind ht (by omega) hi
    exact ⟨h1, by rw [h1, formS_root h2, hisF]⟩
  have hTr : ∀ (X : World) (hX : Sat F X) (ga : Nat) (i : Nat), i < N → isF i = true → (∀ q, q < i → isF q = true → AtF (heapF X) ga ne S q) → Calls Tryz.prog 75 #[.agg #[.slice An nn cn, .slice Ae ne ce], .slice Al N cl, .int .i64 (i : Nat), .slice (some ⟨ga, 0, none⟩) N N, .int .i64 (ne : Nat)] X (RetRow X ne (S i)) := fun X hX ga i hi hf hr => by
    have h := truth14_w (sat_heapF X) (hT.cle hX.cle) l hN Al N cl hcl (hl.cle hX.cle) ht ga i (by omega) (fun q hq hq2 => by
      have := hr q hq (by rw [hisF]; show (!regS (t.sub q).root.kind) = true; rw [hq2]; rfl)
      rw [hS] at this
      exact this) (by rw [hisF] at hf; simpa using hf)
    rw [hS]
    exact h
  have HTR := Lib.hid hTr
  have HKD := Lib.hid hkind
  have HL := Lib.hid hl
  have HNN := Lib.hid hNN
  have hneb := hT.ne1
  obtain ⟨gt, hgt⟩ : ∃ gt, gt = w.heap.size := ⟨_, rfl⟩
  obtain ⟨W, hW⟩ : ∃ W, W = (w.alloc (.cells #[.slice An nn cn, .slice Ae ne ce] 43)).alloc (.cells (zeros (.slice none 0 0) N) 47) := ⟨_, rfl⟩
  have hbW : Below w.heap.size w W := by rw [hW]; exact (balloc _ _).alloc (by simp) _
  have HBT : Hid (Blk W gt 43 #[.slice An nn cn, .slice Ae ne ce]) := Lib.hid (by rw [hW, hgt]; exact (Blk.new _ _ _).alloc _)
  have HAT : Hid (AtR W (gt + 1) N ne 0 isF S) := Lib.hid (by
    have h := AtR.new (w.alloc (.cells #[.slice An nn cn, .slice Ae ne ce] 43)) N ne isF S
    rw [hW, hgt]
    simpa using h)
  have HFW := Lib.hid (hF.below hbW)
  have HBW := Lib.hid hbW
  have HW := Lib.hid hW
  have HG := Lib.hid hgt
  have hgw : w.heap.size ≤ gt := by omega
  have hmkA := fun (Y : World) => makeBB0 N (by omega) Y
  have hFo : Hid (F (gt + 1) = none) := Lib.hid (hF.none_ (by omega))
  clear hTr hkind hl hNN hlen ht hisF hS hW hbW hgt hF hT
  go_enter Tryz.func44, Tryz.ntmps44
  go_wp2_with fail
  rw [← HW.out, ← HG.out]
  go_loopw [16] (fun v16 wr => ∃ i : Nat, i ≤ N ∧ v16 = .int .i64 i ∧ AtR wr (gt + 1) N ne i isF S ∧ Wr [gt + 1] W wr) (fun v16 _ => N - (intOf v16).toNat)
  case atStart => exact ⟨0, Nat.zero_le _, rfl, HAT.out, .refl _ _⟩
  case round =>
    obtain ⟨i, hi, rfl, hAt, hwr⟩ := hrel
    have hgl := hAt.lt
    by_cases hlt : i < N
    · have hiI : (i : Int) < (N : Int) := by omega
      have hnl : i < l.length := by have := HL.out.1; omega
      obtain ⟨ad, eA, hL⟩ := HL.out.2 (by omega)
      obtain ⟨Ak, ck, hck, hK, hd⟩ := hL i hnl
      obtain ⟨hk1, hk2⟩ := HKD.out i hnl
      have hFr := hwr.sat HFW.out (fun g hg => by simp at hg; rw [hg]; exact hFo.out)
      obtain ⟨nd, hnd⟩ : ∃ nd, l[i] = nd := ⟨_, rfl⟩
      rw [hnd] at hK hd hck hk1 hk2
      obtain ⟨kind, name, lo, hi', kk⟩ := nd
      dsimp only at hK hd hck hk1 hk2
      obtain ⟨c0, c1, c2, c3, c4⟩ := hd.sat hFr
      dsimp only at c0 c1 c2 c3 c4
      subst eA
      have HFK := Lib.hid (fun (X : World) => hk2 ▸ formKind_w kind X)
      obtain ⟨t0, t1, _, _⟩ := blkA (hwr.blk HBT.out (by simp))
      have HAT1 := Lib.hid hAt
      have HWR := Lib.hid hwr
      have hz := hwr.size
      have hrow := fun q (hq : q < i) (hf : isF q = true) => hAt.row hq hf
      obtain ⟨b, hb⟩ : ∃ b, isF i = b := ⟨_, rfl⟩
      rw [hb] at HFK
      have HTI := Lib.hid (fun (h : b = true) => HTR.out wr hFr (gt + 1) i hlt (by rw [hb, h]) hrow)
      have HBI := Lib.hid hb
      obtain ⟨vz, z5⟩ := hAt.some_ hlt
      clear hd hL hnd hK hck hk1 hk2 hAt hwr hrow hb c1 c2 c3 c4 hFr
      cases b with
      | false =>
        go_wp2_with (go_at_call 74; refine (HFK.out _).mono ?_; rintro e w2 ⟨rfl, rfl⟩)
        go_roundw
        case rel => exact ⟨i + 1, by omega, by go_num, HAT1.out.skip HBI.out, HWR.out⟩
        case measure => simp [intOf]; omega
      | true =>
        have HTI2 := Lib.hid (HTI.out rfl)
        clear HTI
        go_wp2_with (first
          | (go_at_call 74; refine (HFK.out _).mono ?_; rintro e w2 ⟨rfl, rfl⟩)
          | (go_at_call 75; refine HTI2.out.mono ?_; rintro e w3 ⟨g, rfl, hb3, hg3, hk3⟩; have hA3 := HAT1.out.call hb3; have f3 := hA3.soft i; obtain ⟨vz3, z3⟩ := hA3.some_ hlt))
        go_roundw
        case rel => exact ⟨i + 1, by omega, by go_num, hA3.put hlt (by omega) hk3, (HWR.out.bel (hb3.mono hz)).set (g := gt + 1) (by simp) i (.slice (some ⟨g, 0, none⟩) ne ne)⟩
        case measure => simp [intOf]; omega
    · obtain rfl : i = N := by omega
      have hdec : decide ((i : Int) < (i : Int)) = false := decide_eq_false (by omega)
      have HAT1 := Lib.hid hAt
      have HBF := Lib.hid (HBW.out.trans (hwr.below (fun g hg => by simp at hg; omega) HBW.out.size))
      clear hAt hwr
      go_wp2_with fail
      go_ret
      exact ⟨gt + 1, rfl, by omega, HAT1.out, HBF.out⟩
set_option maxRecDepth 100000 in
set_option maxHeartbeats 2000000 in
theorem all14Yes_w {F : Fz} {w : World} (hF : Sat F w) {ss : List ByteArray} {es : List Evt} {An : Option Addr} {nn cn : Nat} {Ae : Option Addr} {ne ce : Nat} (hT : RefT F ss es An nn cn Ae ne ce)
    (l : List Nd) (hN : l.length ≤ 1000) (Al : Option Addr) (N cl : Nat) (hcl : N ≤ cl) (hl : NodesF F Al N l) {t : Tr} (ht : treeS l = some t) (hreg : regS t.root.kind = false) :
    Calls Tryz.prog 22 #[.agg #[.slice An nn cn, .slice Ae ne ce], .slice Al N cl] w (RetRow w ne (satT (trcE ss es) t)) := by
  have hlen := tree_len ht
  have hNN : N = t.size := by have := hl.1; omega
  have hsp := t.size_pos
  have hNb : N ≤ 1000 := by omega
  have hneb := hT.ne1
  obtain ⟨R, hR⟩ : ∃ R, N = R + 1 := ⟨N - 1, by omega⟩
  have hR1 : (N : Int) - 1 = (R : Int) := by omega
  have hR2 : (R : Int) < (N : Int) := by omega
  have hR3 : R < N := by omega
  obtain ⟨isF, hisF⟩ : ∃ isF : Nat → Bool, isF = fun q => !regS (t.sub q).root.kind := ⟨_, rfl⟩
  obtain ⟨S, hS⟩ : ∃ S : Nat → Nat → Bool, S = fun q => satT (trcE ss es) (t.sub q) := ⟨_, rfl⟩
  have hsr : t.sub R = t := by have := Tr.sub_root t; rwa [show t.size - 1 = R by omega] at this
  have HRF : Hid (isF R = true) := Lib.hid (by rw [hisF]; show (!regS (t.sub R).root.kind) = true; rw [hsr, hreg]; rfl)
  have HSR : Hid (S R = satT (trcE ss es) t) := Lib.hid (by rw [hS]; show satT _ (t.sub R) = _; rw [hsr])
  have hfrm : formL l = true := by unfold formL; rw [ht]; simp [hreg]
  have HMy := Lib.hid (fun (X : World) (h : Sat F X) => mayR8_w h ss es An nn cn hT.hcn hT.nm Ae ne ce (by omega) hT.ev hT.ids true hT.may)
  have HFm := Lib.hid (fun (X : World) (h : Sat F X) => rform_w h l hN Al N cl hl true hfrm)
  have HTS := Lib.hid (fun (X : World) (h : Sat F X) => truths14_w h hT l hN Al N cl hcl hl ht isF hisF S hS)
  have hb0 := balloc w (.cells #[.slice An nn cn, .slice Ae ne ce] 43)
  have HB0 := Lib.hid (Blk.new w 43 #[.slice An nn cn, .slice Ae ne ce])
  have hF0 := hF.below hb0
  obtain ⟨t0, t1, _, _⟩ := blkA HB0.out
  clear hlen hNN hsp hR hisF hS hsr hreg hfrm hl ht hT
  go_enter Tryz.func22, Tryz.ntmps22
  go_wp2_with (first
    | (go_at_call 42; refine (HMy.out _ hF0).mono ?_; rintro e w1 ⟨rfl, hw1⟩; have hb1 := bthen hb0 hw1; have hF1 := hF.below hb1; obtain ⟨t0', t1', _, _⟩ := blkA (HB0.out.call hw1))
    | (go_at_call 43; refine (HFm.out _ hF1).mono ?_; rintro e w2 ⟨rfl, hw2⟩; have hb2 := bthen hb1 hw2; have hF2 := hF.below hb2; obtain ⟨t0'', t1'', _, _⟩ := blkA ((HB0.out.call hw1).call hw2))
    | (go_at_call 44; refine (HTS.out _ hF2).mono ?_; rintro e w3 ⟨ga, rfl, hga, hA, hb3⟩; obtain ⟨g, z3, hgg, hk⟩ := hA.fin hR3 HRF.out))
  go_ret
  rw [HSR.out] at hk
  exact ⟨g, rfl, bthen hb2 hb3, by have := hb2.size; omega, hk⟩
set_option maxRecDepth 100000 in
set_option maxHeartbeats 2000000 in
theorem all14No_w {F : Fz} {w : World} (hF : Sat F w) (ss : List ByteArray) (es : List Evt) (An : Option Addr) (nn cn : Nat) (hcn : nn ≤ cn) (hN : Rd F 1 An nn (ss.map Value.string)) (Ae : Option Addr) (ne ce : Nat) (hE : EvsF F Ae ne es) (hid : ∀ e ∈ es, e.ids.length ≤ 1000000000) (hn : ne ≤ 1000)
    (l : List Nd) (hlN : l.length ≤ 1000) (Al : Option Addr) (N cl : Nat) (hl : NodesF F Al N l) (hok : (mayT ss es && formL l) = false) :
    Calls Tryz.prog 22 #[.agg #[.slice An nn cn, .slice Ae ne ce], .slice Al N cl] w fun e w' => e = .returned (.slice none 0 0) ∧ Below w.heap.size w w' := by
  obtain ⟨a, ha⟩ : ∃ a, mayT ss es = a := ⟨_, rfl⟩
  obtain ⟨b, hb⟩ : ∃ b, formL l = b := ⟨_, rfl⟩
  have HMy := Lib.hid (fun (X : World) (h : Sat F X) => mayR8_w h ss es An nn cn hcn hN Ae ne ce (by omega) hE hid a ha)
  have HFm := Lib.hid (fun (X : World) (h : Sat F X) => rform_w h l hlN Al N cl hl b hb)
  rw [ha, hb] at hok
  have hb0 := balloc w (.cells #[.slice An nn cn, .slice Ae ne ce] 43)
  have HB0 := Lib.hid (Blk.new w 43 #[.slice An nn cn, .slice Ae ne ce])
  have hF0 := hF.below hb0
  obtain ⟨t0, t1, _, _⟩ := blkA HB0.out
  clear ha hb hN hE hid hl
  cases a with
  | false =>
    clear hok
    go_enter Tryz.func22, Tryz.ntmps22
    go_wp2_with (go_at_call 42; refine (HMy.out _ hF0).mono ?_; rintro e w1 ⟨rfl, hw1⟩; have hb1 := bthen hb0 hw1)
    go_ret
    exact ⟨rfl, hb1⟩
  | true =>
    obtain rfl : b = false := by simpa using hok
    clear hok
    go_enter Tryz.func22, Tryz.ntmps22
    go_wp2_with (first
      | (go_at_call 42; refine (HMy.out _ hF0).mono ?_; rintro e w1 ⟨rfl, hw1⟩; have hb1 := bthen hb0 hw1; have hF1 := hF.below hb1; obtain ⟨t0', t1', _, _⟩ := blkA (HB0.out.call hw1))
      | (go_at_call 43; refine (HFm.out _ hF1).mono ?_; rintro e w2 ⟨rfl, hw2⟩; have hb2 := bthen hb1 hw2))
    go_ret
    exact ⟨rfl, hb2⟩
end Go.Proofs.YtdbbooibkiicnaaGreat
