/- The reference's truth of layer 14: all but a match. -/
import Derived.Test.YtdbbooibkiicnaaGreatRef14
import Derived.Test.YtdbbooibkiicnaaGreatRef14t
import Derived.Test.YtdbbooibkiicnaaGreatSatF
set_option linter.unusedVariables false
set_option linter.unusedSimpArgs false
namespace Go.Proofs.YtdbbooibkiicnaaGreat
open Go.RowKit
attribute [local go_sem ↓] Go.wp_at_zero Go.wp_at_succ
/-- What holds tells of a node at each point. -/
def HolC (F : Fz) (An : Option Addr) (nn cn : Nat) (Ae : Option Addr) (ne ce : Nat) (kind : Int) (name : ByteArray) (lo hi : Int) (Ak : Option Addr) (nk ck : Nat) (A : Option Addr) (na ca : Nat) (B : Option Addr) (nb cb : Nat) (S : Nat → Bool) : Prop :=
  ∀ Y : World, Sat F Y → ∀ p : Nat, p < ne → Calls Tryz.prog 117 #[.agg #[.slice An nn cn, .slice Ae ne ce], .agg #[.int .i64 kind, .string name, .int .i64 lo, .int .i64 hi, .slice Ak nk ck], .int .i64 (p : Nat), .int .i64 (ne : Nat), .slice A na ca, .slice B nb cb] Y fun e w' => e = .returned (.bool (S p)) ∧ Below Y.heap.size Y w'
theorem node_holds {F : Fz} {ss : List ByteArray} {es : List Evt} {An : Option Addr} {nn cn : Nat} {Ae : Option Addr} {ne ce : Nat} (hT : RefT F ss es An nn cn Ae ne ce)
    (l : List Nd) {t : Tr} (ht : treeS l = some t) (ga : Nat) (i : Nat) (hi : i < t.size)
    (hrows : ∀ q, q < i → regS (t.sub q).root.kind = false → AtF F ga ne (fun q => satT (trcE ss es) (t.sub q)) q)
    (kind : Int) (name : ByteArray) (lo hi' : Int) (kk : List Int) (hnd : l[i]? = some ⟨kind, name, lo, hi', kk⟩) (hreg : regS (t.sub i).root.kind = false) (hno : kind ≠ 16 ∧ kind ≠ 17) (Ak : Option Addr) (ck : Nat) :
    (kk = [] ∧ HolC F An nn cn Ae ne ce kind name lo hi' Ak kk.length ck none 0 0 none 0 0 (satT (trcE ss es) (t.sub i))) ∨
    (∃ q g, q < i ∧ kk = [((q : Nat) : Int)] ∧ F.cell ⟨ga, q, none⟩ = some (.slice (some ⟨g, 0, none⟩) ne ne) ∧ HolC F An nn cn Ae ne ce kind name lo hi' Ak kk.length ck (some ⟨g, 0, none⟩) ne ne none 0 0 (satT (trcE ss es) (t.sub i))) ∨
    (∃ q0 q1 g0 g1, q0 < i ∧ q1 < i ∧ kk = [((q0 : Nat) : Int), ((q1 : Nat) : Int)] ∧ F.cell ⟨ga, q0, none⟩ = some (.slice (some ⟨g0, 0, none⟩) ne ne) ∧ F.cell ⟨ga, q1, none⟩ = some (.slice (some ⟨g1, 0, none⟩) ne ne) ∧ HolC F An nn cn Ae ne ce kind name lo hi' Ak kk.length ck (some ⟨g0, 0, none⟩) ne ne (some ⟨g1, 0, none⟩) ne ne (satT (trcE ss es) (t.sub i))) := by
  have hlen := tree_len ht
  have hil : i < l.length := by omega
  have hXn : (trcE ss es).n = ne := hT.ev.1
  have hroot := get_flat_root ht i hil
  rw [List.getElem?_eq_getElem hil] at hnd
  injection hnd with hnd
  have hkk : kk = zs (kidsN t i) := by rw [← kidsN_eq ht i hil, hnd]
  rw [hnd] at hroot
  have hvx := sub_valid t i (tree_valid ht)
  unfold kidsN at hkk
  have hrow : ∀ (q : Nat) (a : Tr), t.sub q = a → q < i → regS a.root.kind = false → ∃ g, F.cell ⟨ga, q, none⟩ = some (.slice (some ⟨g, 0, none⟩) ne ne) ∧ ∀ j, j < ne → F.cell ⟨g, j, none⟩ = some (.bool (satT (trcE ss es) a j)) := fun q a ha hq hr => by
    obtain ⟨g, h1, h2⟩ := hrows q hq (by rw [ha]; exact hr)
    dsimp only at h2
    rw [ha] at h2
    exact ⟨g, h1, fun j hj => h2.cell hj⟩
  cases hx : t.sub i with
  | leaf hd =>
    rw [hx] at hroot hvx hkk hreg
    simp only [Tr.root, Tr.rootKids, Nd.mk.injEq] at hroot
    obtain ⟨rfl, rfl, rfl, rfl, _⟩ := hroot
    obtain ⟨ha, _⟩ := fields_arity (show fieldsS { hd with kids := [] } = true from hvx)
    refine .inl ⟨by rw [hkk]; rfl, fun Y hY p hp => ?_⟩
    rcases arity0 ha.symm with e | e | e | e
    · rw [e]
      refine (rholds1_w hY hT hd.name hd.lo hd.hi Ak _ ck none 0 0 none 0 0 p hp).mono fun _ _ h => ?_
      rw [sat_leaf, leafS, if_pos e]
      exact h
    · rw [e]
      refine (rholds2_w hY hT hd.name hd.lo hd.hi Ak _ ck none 0 0 none 0 0 p hp).mono fun _ _ h => ?_
      rw [sat_leaf, leafS, if_neg (by omega), if_neg (by omega)]
      exact h
    · rw [e]
      refine (rholds3_w hY hT hd.name hd.lo hd.hi Ak _ ck none 0 0 none 0 0 p hp).mono fun _ _ h => ?_
      rw [sat_leaf, leafS, if_neg (by omega), if_pos e]
      exact h
    · exfalso
      have h1 : regS hd.kind = false := hreg
      rw [e] at h1
      exact absurd h1 (by decide)
  | un hd a =>
    rw [hx] at hroot hvx hkk hreg
    obtain ⟨k1, k2, _⟩ := kid_un hi hx
    have kp := a.size_pos
    simp only [Tr.root, Tr.rootKids, Nd.mk.injEq] at hroot
    obtain ⟨rfl, rfl, rfl, rfl, _⟩ := hroot
    simp only [validT, Bool.and_eq_true, beq_iff_eq] at hvx
    obtain ⟨⟨hf, hw⟩, _⟩ := hvx
    obtain ⟨ha, hsp⟩ := fields_arity hf
    have hr0 : regS hd.kind = false := hreg
    have hk : hd.kind = 4 ∨ hd.kind = 8 ∨ hd.kind = 9 ∨ hd.kind = 10 ∨ hd.kind = 11 ∨ hd.kind = 12 ∨ hd.kind = 13 := by
      rcases arity1 ha.symm with e | e | e | e | e | e
      · omega
      · omega
      · omega
      · omega
      · rw [e] at hr0; exact absurd hr0 (by decide)
      · rw [e] at hr0; exact absurd hr0 (by decide)
    have hra : regS a.root.kind = false := by
      rw [hw]
      rcases hk with e | e | e | e | e | e | e <;> rw [e] <;> rfl
    obtain ⟨g, hg, hv⟩ := hrow (i - 1) a k2 (by omega) hra
    refine .inr (.inl ⟨i - 1, g, by omega, by rw [hkk]; rfl, hg, fun Y hY p hp => ?_⟩)
    have hpX : p < (trcE ss es).n := by rw [hXn]; exact hp
    have hs : hd.kind ≠ 4 → spanS hd.lo hd.hi = true := fun h4 => hsp (by rcases hk with e | e | e | e | e | e | e <;> first | exact absurd e h4 | (rw [e]; rfl))
    rcases hk with e | e | e | e | e | e | e
    · rw [e]
      refine (rholds4_w hY hT hd.name hd.lo hd.hi Ak _ ck g ne _ hv none 0 0 p hp).mono fun _ _ h => ?_
      rw [sat_un, unS, if_pos e]
      exact h
    · have hs' := hs (by omega)
      rw [e]
      refine (rholds8_w hY hT hd.name hd.lo hd.hi Ak _ ck g ne _ hv none 0 0 hs' p hp).mono fun _ _ h => ?_
      rw [sat_un, unS, if_neg (by omega), if_pos e]
      exact h
    · have hs' := hs (by omega)
      rw [e]
      refine (rholds9_w hY hT hd.name hd.lo hd.hi Ak _ ck g ne _ hv none 0 0 hs' p hp).mono fun _ _ h => ?_
      rw [sat_un, unS, if_neg (by omega), if_neg (by omega), if_pos e, hXn]
      exact h
    · have hs' := hs (by omega)
      have hl := loop_un (trcE ss es) hd (by omega) (satT (trcE ss es) a) (satT (trcE ss es) a) (reachT (trcE ss es).n (valL (valsT (trcE ss es) a)) a 0) hpX
      rw [e] at hl
      rw [e]
      refine (rholds10_w hY hT hd.name hd.lo hd.hi Ak _ ck hs' g ne _ hv none 0 0 p hp).mono fun _ _ h => ?_
      rw [sat_un, ← hl]
      exact h
    · have hs' := hs (by omega)
      have hl := loop_un (trcE ss es) hd (by omega) (satT (trcE ss es) a) (satT (trcE ss es) a) (reachT (trcE ss es).n (valL (valsT (trcE ss es) a)) a 0) hpX
      rw [e] at hl
      rw [e]
      refine (rholds11_w hY hT hd.name hd.lo hd.hi Ak _ ck hs' g ne _ hv none 0 0 p hp).mono fun _ _ h => ?_
      rw [sat_un, ← hl]
      exact h
    · have hs' := hs (by omega)
      have hl := loop_un (trcE ss es) hd (by omega) (satT (trcE ss es) a) (satT (trcE ss es) a) (reachT (trcE ss es).n (valL (valsT (trcE ss es) a)) a 0) hpX
      rw [e] at hl
      rw [e]
      refine (rholds12_w hY hT hd.name hd.lo hd.hi Ak _ ck hs' g ne _ hv none 0 0 p hp).mono fun _ _ h => ?_
      rw [sat_un, ← hl]
      exact h
    · have hs' := hs (by omega)
      have hl := loop_un (trcE ss es) hd (by omega) (satT (trcE ss es) a) (satT (trcE ss es) a) (reachT (trcE ss es).n (valL (valsT (trcE ss es) a)) a 0) hpX
      rw [e] at hl
      rw [e]
      refine (rholds13_w hY hT hd.name hd.lo hd.hi Ak _ ck hs' g ne _ hv none 0 0 p hp).mono fun _ _ h => ?_
      rw [sat_un, ← hl]
      exact h
  | bin hd a b =>
    rw [hx] at hroot hvx hkk hreg
    obtain ⟨k1, k2, k3⟩ := sub_bin_kids hi hx
    have kp := a.size_pos
    have kq := b.size_pos
    simp only [Tr.root, Tr.rootKids, Nd.mk.injEq] at hroot
    obtain ⟨rfl, rfl, rfl, rfl, _⟩ := hroot
    simp only [validT, Bool.and_eq_true, beq_iff_eq] at hvx
    obtain ⟨⟨⟨⟨hf, hwa⟩, hwb⟩, _⟩, _⟩ := hvx
    obtain ⟨ha, hsp⟩ := fields_arity hf
    have hr0 : regS hd.kind = false := hreg
    have hk : hd.kind = 5 ∨ hd.kind = 6 ∨ hd.kind = 7 ∨ hd.kind = 14 ∨ hd.kind = 15 := by
      rcases arity2 ha.symm with e | e | e | e | e | e | e
      · omega
      · omega
      · omega
      · omega
      · omega
      · rw [e] at hr0; exact absurd hr0 (by decide)
      · rw [e] at hr0; exact absurd hr0 (by decide)
    have hra : regS a.root.kind = false := by
      rw [hwa]
      rcases hk with e | e | e | e | e <;> rw [e] <;> rfl
    have hrb : regS b.root.kind = false := by
      rw [hwb]
      rcases hk with e | e | e | e | e <;> rw [e] <;> rfl
    obtain ⟨g0, hg0, hv⟩ := hrow (i - 1 - b.size) a k3 (by omega) hra
    obtain ⟨g1, hg1, hu⟩ := hrow (i - 1) b k2 (by omega) hrb
    refine .inr (.inr ⟨i - 1 - b.size, i - 1, g0, g1, by omega, by omega, by rw [hkk]; rfl, hg0, hg1, fun Y hY p hp => ?_⟩)
    have hpX : p < (trcE ss es).n := by rw [hXn]; exact hp
    rcases hk with e | e | e | e | e
    · rw [e]
      refine (rholds5_w hY hT hd.name hd.lo hd.hi Ak _ ck g0 ne _ hv g1 ne _ hu p hp).mono fun _ _ h => ?_
      rw [sat_bin, binS, if_pos e]
      exact h
    · rw [e]
      refine (rholds6_w hY hT hd.name hd.lo hd.hi Ak _ ck g0 ne _ hv g1 ne _ hu p hp).mono fun _ _ h => ?_
      rw [sat_bin, binS, if_neg (by omega), if_pos e]
      exact h
    · rw [e]
      refine (rholds7_w hY hT hd.name hd.lo hd.hi Ak _ ck g0 ne _ hv g1 ne _ hu p hp).mono fun _ _ h => ?_
      rw [sat_bin, binS, if_neg (by omega), if_neg (by omega), if_pos e]
      exact h
    · have hs' : spanS hd.lo hd.hi = true := hsp (by rw [e]; rfl)
      have hl := loop_bin (trcE ss es) hd (by omega) (satT (trcE ss es) a) (satT (trcE ss es) b) hpX
      rw [e] at hl
      rw [e]
      refine (rholds14_w hY hT hd.name hd.lo hd.hi Ak _ ck hs' g0 ne _ hv g1 ne _ hu p hp).mono fun _ _ h => ?_
      rw [sat_bin, ← hl]
      exact h
    · have hs' : spanS hd.lo hd.hi = true := hsp (by rw [e]; rfl)
      have hl := loop_bin (trcE ss es) hd (by omega) (satT (trcE ss es) a) (satT (trcE ss es) b) hpX
      rw [e] at hl
      rw [e]
      refine (rholds15_w hY hT hd.name hd.lo hd.hi Ak _ ck hs' g0 ne _ hv g1 ne _ hu p hp).mono fun _ _ h => ?_
      rw [sat_bin, ← hl]
      exact h
/-- The row as far as a point. -/
def rowP (S : Nat → Bool) (i : Nat) : Nat → Bool := fun q => decide (q < i) && S q
theorem rowP_set (S : Nat → Bool) (i n : Nat) : (rowV n (rowP S i)).setIfInBounds i (.bool (S i)) = rowV n (rowP S (i + 1)) := set_rowV fun q _ => by
  unfold rowP
  by_cases e : q = i
  · subst e; simp
  · rw [if_neg e]
    congr 1
    exact decide_eq_decide.2 (by omega)
set_option maxRecDepth 100000 in
set_option maxHeartbeats 8000000 in
theorem truthN_w {F : Fz} {w : World} (hF : Sat F w) {ss : List ByteArray} {es : List Evt} {An : Option Addr} {nn cn : Nat} {Ae : Option Addr} {ne ce : Nat} (hT : RefT F ss es An nn cn Ae ne ce)
    (l : List Nd) (Al : Option Addr) (N cl : Nat) (hl : NodesF F Al N l) (hN : l.length ≤ 1000) {t : Tr} (ht : treeS l = some t) (ga : Nat) (i : Nat) (hi : i < t.size)
    (hrows : ∀ q, q < i → regS (t.sub q).root.kind = false → AtF F ga ne (fun q => satT (trcE ss es) (t.sub q)) q)
    (kind : Int) (name : ByteArray) (lo hi' : Int) (kk : List Int) (hnd : l[i]? = some ⟨kind, name, lo, hi', kk⟩) (hreg : regS (t.sub i).root.kind = false) (hno : kind ≠ 16 ∧ kind ≠ 17) :
    Calls Tryz.prog 75 #[.agg #[.slice An nn cn, .slice Ae ne ce], .slice Al N cl, .int .i64 (i : Nat), .slice (some ⟨ga, 0, none⟩) N N, .int .i64 (ne : Nat)] w (RetRow w ne (satT (trcE ss es) (t.sub i))) := by
  have hlen := tree_len ht
  have hil : i < l.length := by omega
  have hNN : N = t.size := by have := hl.1; omega
  obtain ⟨ad, eA, hL⟩ := hl.2 (by omega)
  obtain ⟨Ak, ck, hck, hK, hdc⟩ := hL i hil
  have hNH := node_holds hT l ht ga i hi hrows kind name lo hi' kk hnd hreg hno Ak ck
  rw [List.getElem?_eq_getElem hil] at hnd
  injection hnd with hnd
  rw [hnd] at hK hdc hck
  dsimp only at hK hdc hck
  subst eA
  obtain ⟨S, hS⟩ : ∃ S, satT (trcE ss es) (t.sub i) = S := ⟨_, rfl⟩
  rw [hS] at hNH
  rw [hS]
  obtain ⟨K, hKk⟩ : ∃ K, kk.length = K := ⟨_, rfl⟩
  rw [hKk] at hNH
  have hiN : (i : Int) < (N : Int) := by omega
  have hneb := hT.ne1
  obtain ⟨gt, hgt⟩ : ∃ gt, gt = w.heap.size := ⟨_, rfl⟩
  obtain ⟨W1, hW1⟩ : ∃ W1, W1 = w.alloc (.cells #[.slice An nn cn, .slice Ae ne ce] 43) := ⟨_, rfl⟩
  obtain ⟨W, hW⟩ : ∃ W, W = (W1.alloc (.cells #[.int .i64 kind, .string name, .int .i64 lo, .int .i64 hi', .slice Ak K ck] 62)).alloc (.cells (rowV ne fun _ => false) 4) := ⟨_, rfl⟩
  have hz1 : W1.heap.size = gt + 1 := by rw [hW1, hgt]; simp
  have hb1 : Below w.heap.size w W1 := by rw [hW1]; exact balloc _ _
  have hbW : Below w.heap.size w W := by rw [hW]; exact (hb1.alloc hb1.size _).alloc (by simp; omega) _
  have hBT : Blk W gt 43 #[.slice An nn cn, .slice Ae ne ce] := by rw [hW, hW1, hgt]; exact ((Blk.new _ _ _).alloc _).alloc _
  have hBX : Blk W (gt + 1) 62 #[.int .i64 kind, .string name, .int .i64 lo, .int .i64 hi', .slice Ak K ck] := by rw [hW, ← hz1]; exact (Blk.new _ _ _).alloc _
  have hBO : Blk W (gt + 1 + 1) 4 (rowV ne (rowP S 0)) := by
    rw [rowV_congr (r' := fun _ => false) (fun j _ => by simp [rowP]), hW, show gt + 1 + 1 = W1.heap.size + 1 by omega]
    exact Blk.new2 _ _ _ _
  obtain ⟨d0, d1, d2, d3, d4⟩ := hdc.sat (hF.below hb1)
  dsimp only at d0 d1 d2 d3 d4
  rw [hKk] at d4
  rw [hW1] at d0 d1 d2 d3 d4
  have HK := Lib.hid hK
  have HKK := Lib.hid hKk
  have HFW := Lib.hid (hF.below hbW)
  have HBW := Lib.hid hbW
  have HBT := Lib.hid hBT
  have HBX := Lib.hid hBX
  have HBO := Lib.hid hBO
  have HW1 := Lib.hid hW1
  have HW := Lib.hid hW
  have HG := Lib.hid hgt
  have hFo : Hid (F (gt + 1 + 1) = none) := Lib.hid (hF.none_ (by omega))
  have hmkB := fun (Y : World) => makeB ne (by omega) Y
  have hgw : w.heap.size ≤ gt + 1 + 1 := by omega
  have g16 : (kind == 16) = false := by rw [beq_eq_false_iff_ne]; exact hno.1
  have g17 : (kind == 17) = false := by rw [beq_eq_false_iff_ne]; exact hno.2
  obtain ⟨x0, x1, x2, x3, x4⟩ := blk5 HBX.out
  obtain ⟨t0, t1, _, _⟩ := blkA HBT.out
  have hqN : ∀ q : Nat, q < i → (q : Int) < (N : Int) := fun q hq => by omega
  have HQN := Lib.hid hqN
  clear hqN hlen hil hNN hK hdc hck hnd hS hKk hT hW1 hW hgt hz1 hb1 hbW hBT hBX hBO hreg hrows hno ht hl hL hF hi
  rcases hNH with ⟨rfl, hH⟩ | ⟨q, g, hq, rfl, hg, hH⟩ | ⟨q0, q1, g0, g1, hq0, hq1, rfl, hg0, hg1, hH⟩
  · obtain rfl : K = 0 := by have := HKK.out; simpa using this.symm
    have HH := Lib.hid hH
    clear hH HK
    go_enter Tryz.func75, Tryz.ntmps75
    go_wp2_with fail
    rw [← HW1.out, ← HW.out, ← HG.out]
    clear d0 d1 d2 d3 d4
    go_loopw [135] (fun v135 wr => ∃ p : Nat, p ≤ ne ∧ v135 = .int .i64 p ∧ Blk wr (gt + 1 + 1) 4 (rowV ne (rowP S p)) ∧ Wr [gt + 1 + 1] W wr) (fun v135 _ => ne - (intOf v135).toNat)
    case atStart => exact ⟨0, Nat.zero_le _, rfl, HBO.out, .refl _ _⟩
    case round =>
      obtain ⟨p, hp, rfl, hB, hwr⟩ := hrel
      by_cases hlt : p < ne
      · have hpI : (p : Int) < (ne : Int) := by omega
        obtain ⟨x0, x1, x2, x3, x4⟩ := blk5 (hwr.blk HBX.out (by simp))
        obtain ⟨t0, t1, _, _⟩ := blkA (hwr.blk HBT.out (by simp; omega))
        have hFr := hwr.sat HFW.out (fun g hg => by simp at hg; rw [hg]; exact hFo.out)
        have HHp := Lib.hid (HH.out wr hFr p hlt)
        have HBB := Lib.hid hB
        have HWR := Lib.hid hwr
        have hz := hwr.size
        clear hB hwr hFr
        go_wp2_with (go_at_call 117; refine HHp.out.mono ?_; rintro e w5 ⟨rfl, hb5⟩; have hB5 := HBB.out.call hb5; have z5 : w5.cell? ⟨gt + 1 + 1, p, none⟩ = some (.bool (rowP S p p)) := (by rw [hB5.cell, get_rowV hlt]); have f5 := hB5.frozen p)
        go_roundw
        case rel => exact ⟨p + 1, by omega, by go_num, by rw [← rowP_set]; exact hB5.set_ p (.bool (S p)), (HWR.out.bel (hb5.mono hz)).set (g := gt + 1 + 1) (by simp) p (.bool (S p))⟩
        case measure => simp [intOf]; omega
      · obtain rfl : p = ne := by omega
        have hdec : decide ((p : Int) < (p : Int)) = false := decide_eq_false (by omega)
        have hRp : rowV p (rowP S p) = rowV p S := rowV_congr fun q hq => by unfold rowP; rw [decide_eq_true hq, Bool.true_and]
        rw [hRp] at hB
        have HB5 := Lib.hid hB
        have HBF := Lib.hid (HBW.out.trans (hwr.below (fun g hg => by simp at hg; omega) HBW.out.size))
        clear hRp hB hwr
        go_wp2_with fail
        go_ret
        exact ⟨gt + 1 + 1, rfl, HBF.out, hgw, HB5.out⟩
  · obtain rfl : K = 1 := by have := HKK.out; simpa using this.symm
    obtain ⟨ak, v, rfl, hv, hk0⟩ := HK.out.at1 (k := 0) (by simp)
    obtain rfl : Value.int .i64 (q : Int) = v := by simpa using hv
    rw [show ak.add 0 = ak by unfold Addr.add; simp] at hk0
    have c0 := HFW.out.cell hk0
    have c1 := HFW.out.cell hg
    have hqI := HQN.out q hq
    rw [HW.out, HW1.out] at c0 c1
    clear hv hk0 hg
    have HH := Lib.hid hH
    clear hH HK
    go_enter Tryz.func75, Tryz.ntmps75
    go_wp2_with fail
    rw [← HW1.out, ← HW.out, ← HG.out]
    clear d0 d1 d2 d3 d4
    go_loopw [135] (fun v135 wr => ∃ p : Nat, p ≤ ne ∧ v135 = .int .i64 p ∧ Blk wr (gt + 1 + 1) 4 (rowV ne (rowP S p)) ∧ Wr [gt + 1 + 1] W wr) (fun v135 _ => ne - (intOf v135).toNat)
    case atStart => exact ⟨0, Nat.zero_le _, rfl, HBO.out, .refl _ _⟩
    case round =>
      obtain ⟨p, hp, rfl, hB, hwr⟩ := hrel
      by_cases hlt : p < ne
      · have hpI : (p : Int) < (ne : Int) := by omega
        obtain ⟨x0, x1, x2, x3, x4⟩ := blk5 (hwr.blk HBX.out (by simp))
        obtain ⟨t0, t1, _, _⟩ := blkA (hwr.blk HBT.out (by simp; omega))
        have hFr := hwr.sat HFW.out (fun g hg => by simp at hg; rw [hg]; exact hFo.out)
        have HHp := Lib.hid (HH.out wr hFr p hlt)
        have HBB := Lib.hid hB
        have HWR := Lib.hid hwr
        have hz := hwr.size
        clear hB hwr hFr
        go_wp2_with (go_at_call 117; refine HHp.out.mono ?_; rintro e w5 ⟨rfl, hb5⟩; have hB5 := HBB.out.call hb5; have z5 : w5.cell? ⟨gt + 1 + 1, p, none⟩ = some (.bool (rowP S p p)) := (by rw [hB5.cell, get_rowV hlt]); have f5 := hB5.frozen p)
        go_roundw
        case rel => exact ⟨p + 1, by omega, by go_num, by rw [← rowP_set]; exact hB5.set_ p (.bool (S p)), (HWR.out.bel (hb5.mono hz)).set (g := gt + 1 + 1) (by simp) p (.bool (S p))⟩
        case measure => simp [intOf]; omega
      · obtain rfl : p = ne := by omega
        have hdec : decide ((p : Int) < (p : Int)) = false := decide_eq_false (by omega)
        have hRp : rowV p (rowP S p) = rowV p S := rowV_congr fun q hq => by unfold rowP; rw [decide_eq_true hq, Bool.true_and]
        rw [hRp] at hB
        have HB5 := Lib.hid hB
        have HBF := Lib.hid (HBW.out.trans (hwr.below (fun g hg => by simp at hg; omega) HBW.out.size))
        clear hRp hB hwr
        go_wp2_with fail
        go_ret
        exact ⟨gt + 1 + 1, rfl, HBF.out, hgw, HB5.out⟩
  · obtain rfl : K = 2 := by have := HKK.out; simpa using this.symm
    obtain ⟨ak, v, rfl, hv, hk0⟩ := HK.out.at1 (k := 0) (by simp)
    obtain rfl : Value.int .i64 (q0 : Int) = v := by simpa using hv
    obtain ⟨ak', v', eak, hv', hk1⟩ := HK.out.at1 (k := 1) (by simp)
    injection eak with eak
    subst eak
    obtain rfl : Value.int .i64 (q1 : Int) = v' := by simpa using hv'
    rw [show ak.add 0 = ak by unfold Addr.add; simp] at hk0
    rw [show ak.add 1 = ⟨ak.block, ak.off + 1, none⟩ by simp [Addr.add]] at hk1
    have c0 := HFW.out.cell hk0
    have c1 := HFW.out.cell hk1
    have c2 := HFW.out.cell hg0
    have c3 := HFW.out.cell hg1
    have hq0I := HQN.out q0 hq0
    have hq1I := HQN.out q1 hq1
    rw [HW.out, HW1.out] at c0 c1 c2 c3
    clear hv hv' hk0 hk1 hg0 hg1
    have HH := Lib.hid hH
    clear hH HK
    go_enter Tryz.func75, Tryz.ntmps75
    go_wp2_with fail
    rw [← HW1.out, ← HW.out, ← HG.out]
    clear d0 d1 d2 d3 d4
    go_loopw [135] (fun v135 wr => ∃ p : Nat, p ≤ ne ∧ v135 = .int .i64 p ∧ Blk wr (gt + 1 + 1) 4 (rowV ne (rowP S p)) ∧ Wr [gt + 1 + 1] W wr) (fun v135 _ => ne - (intOf v135).toNat)
    case atStart => exact ⟨0, Nat.zero_le _, rfl, HBO.out, .refl _ _⟩
    case round =>
      obtain ⟨p, hp, rfl, hB, hwr⟩ := hrel
      by_cases hlt : p < ne
      · have hpI : (p : Int) < (ne : Int) := by omega
        obtain ⟨x0, x1, x2, x3, x4⟩ := blk5 (hwr.blk HBX.out (by simp))
        obtain ⟨t0, t1, _, _⟩ := blkA (hwr.blk HBT.out (by simp; omega))
        have hFr := hwr.sat HFW.out (fun g hg => by simp at hg; rw [hg]; exact hFo.out)
        have HHp := Lib.hid (HH.out wr hFr p hlt)
        have HBB := Lib.hid hB
        have HWR := Lib.hid hwr
        have hz := hwr.size
        clear hB hwr hFr
        go_wp2_with (go_at_call 117; refine HHp.out.mono ?_; rintro e w5 ⟨rfl, hb5⟩; have hB5 := HBB.out.call hb5; have z5 : w5.cell? ⟨gt + 1 + 1, p, none⟩ = some (.bool (rowP S p p)) := (by rw [hB5.cell, get_rowV hlt]); have f5 := hB5.frozen p)
        go_roundw
        case rel => exact ⟨p + 1, by omega, by go_num, by rw [← rowP_set]; exact hB5.set_ p (.bool (S p)), (HWR.out.bel (hb5.mono hz)).set (g := gt + 1 + 1) (by simp) p (.bool (S p))⟩
        case measure => simp [intOf]; omega
      · obtain rfl : p = ne := by omega
        have hdec : decide ((p : Int) < (p : Int)) = false := decide_eq_false (by omega)
        have hRp : rowV p (rowP S p) = rowV p S := rowV_congr fun q hq => by unfold rowP; rw [decide_eq_true hq, Bool.true_and]
        rw [hRp] at hB
        have HB5 := Lib.hid hB
        have HBF := Lib.hid (HBW.out.trans (hwr.below (fun g hg => by simp at hg; omega) HBW.out.size))
        clear hRp hB hwr
        go_wp2_with fail
        go_ret
        exact ⟨gt + 1 + 1, rfl, HBF.out, hgw, HB5.out⟩
end Go.Proofs.YtdbbooibkiicnaaGreat
