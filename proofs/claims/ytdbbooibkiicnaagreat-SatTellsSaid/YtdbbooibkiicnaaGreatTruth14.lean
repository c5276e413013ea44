/- The reference's truth of layer 14: a match. -/
import Derived.Test.YtdbbooibkiicnaaGreatVals14
import Derived.Test.YtdbbooibkiicnaaGreatRef14s
import Derived.Test.YtdbbooibkiicnaaGreatSatF
import Derived.Test.YtdbbooibkiicnaaGreatPReach
import Derived.Test.YtdbbooibkiicnaaGreatPlanM
set_option linter.unusedVariables false
set_option linter.unusedSimpArgs false
namespace Go.Proofs.YtdbbooibkiicnaaGreat
open Go.RowKit
attribute [local go_sem ↓] Go.wp_at_zero Go.wp_at_succ
theorem Wr.cellV {Gs : List Nat} {w w' : World} (h : Wr Gs w w') {a : Addr} {v : Value} (hb : a.block ∉ Gs) (hc : w.cell? a = some v) : w'.cell? a = some v :=
  (sat_hx w' Gs).cell (h.cle _ _ (by unfold Fz.cell; rw [hx_out hb]; exact hc))
/-- The row of a match, made as far as point i, and there as far as j. -/
def rowM (R : Nat → Bool) (i : Nat) (o : Bool) : Nat → Bool := fun q => if q = i then o else decide (q < i) && R q
theorem rowM_next (R : Nat → Bool) (i q : Nat) : rowM R i (R i) q = rowM R (i + 1) false q := by
  unfold rowM
  by_cases h : q = i
  · subst h; simp
  · rw [if_neg h]
    by_cases h2 : q = i + 1
    · subst h2; simp [show ¬ (i + 1 < i) by omega]
    · rw [if_neg h2]
      congr 1
      exact decide_eq_decide.2 (by omega)
theorem Wr.drewT {Gs : List Nat} {w w' : World} (h : Wr Gs w w') : Wr Gs w w'.drew := ⟨h.os, h.tape, h.output, h.size, h.block⟩
set_option maxRecDepth 100000 in
set_option maxHeartbeats 8000000 in
theorem truthM_w {F : Fz} {w : World} (hF : Sat F w) {ss : List ByteArray} {es : List Evt} {An : Option Addr} {nn cn : Nat} {Ae : Option Addr} {ne ce : Nat} (hT : RefT F ss es An nn cn Ae ne ce)
    (l : List Nd) (hN : l.length ≤ 1000) (Al : Option Addr) (N cl : Nat) (hcl : N ≤ cl) (hl : NodesF F Al N l) {t : Tr} (ht : treeS l = some t) (ga : Nat) (i : Nat) (hi : i < t.size)
    (hrows : ∀ q, q < i → regS (t.sub q).root.kind = false → AtF F ga ne (fun q => satT (trcE ss es) (t.sub q)) q)
    (hd : Nd) (a : Tr) (hx : t.sub i = .un hd a) (hk : hd.kind = 16 ∨ hd.kind = 17) :
    Calls Tryz.prog 75 #[.agg #[.slice An nn cn, .slice Ae ne ce], .slice Al N cl, .int .i64 (i : Nat), .slice (some ⟨ga, 0, none⟩) N N, .int .i64 (ne : Nat)] w (RetRow w ne (satT (trcE ss es) (t.sub i))) := by
  have hlen := tree_len ht
  have hil : i < l.length := by omega
  have hroot := get_flat_root ht i hil
  have hkk : l[i].kids = zs (kidsN t i) := kidsN_eq ht i hil
  have hvx := sub_valid t i (tree_valid ht)
  have hNN : N = t.size := by have := hl.1; omega
  unfold kidsN at hkk
  rw [hx] at hroot hvx hkk
  obtain ⟨k1, k2, _⟩ := kid_un hi hx
  have kp := a.size_pos
  obtain ⟨nd, hnd⟩ : ∃ nd, l[i] = nd := ⟨_, rfl⟩
  rw [hnd] at hroot hkk
  obtain ⟨kind, name, lo, hi', kk⟩ := nd
  simp only [Tr.root, Tr.rootKids, Nd.mk.injEq] at hroot
  obtain ⟨rfl, rfl, rfl, rfl, _⟩ := hroot
  simp only [validT, Bool.and_eq_true, beq_iff_eq] at hvx
  obtain ⟨⟨hf, hw⟩, hva⟩ := hvx
  obtain ⟨har, hsp⟩ := fields_arity hf
  have hsp' : spanS hd.lo hd.hi = true := hsp (by rcases hk with e | e <;> rw [e] <;> rfl)
  have hreg : regS a.root.kind = true := by rw [hw]; rcases hk with e | e <;> rw [e] <;> rfl
  dsimp only at hkk
  obtain ⟨r, hr⟩ : ∃ r, i - 1 = r := ⟨_, rfl⟩
  rw [hr] at hkk k2
  have hkk1 : kk = [((r : Nat) : Int)] := by rw [hkk]; rfl
  subst hkk1
  obtain ⟨ad, eA, hL⟩ := hl.2 (by omega)
  obtain ⟨Ak, ck, hck, hK, hdc⟩ := hL i hil
  rw [hnd] at hK hdc hck
  dsimp only at hK hdc hck
  obtain ⟨ak, uk, eAk, huk, hk0⟩ := hK.at1 (show 0 < [((r : Nat) : Int)].length by simp)
  simp only [List.map_cons, List.map_nil, List.getElem?_cons_zero, Option.some.injEq] at huk
  subst huk eAk eA
  rw [show ak.add 0 = ak by unfold Addr.add; simp] at hk0
  have hrt : r < t.size := by omega
  have hVa := fun (Y : World) (h : Sat F Y) => vals14_w h ne hT.ne1 (trcE ss es) l hN (some ad) N cl hcl hl ht ga r hrt (by rw [k2]; exact hreg) (fun q hq hrq => hrows q (by omega) hrq)
  rw [k2] at hVa
  obtain ⟨s', e1, e2, e3, e4, _⟩ := fold_flat a [] hva
  have hs' : treeS (a.flat 0) = some s' := by
    unfold treeS parseS
    rw [show (Tr.flat a 0) = Tr.flat a (total []) from rfl, e1]
  have hreg' : regS s'.root.kind = true := by rw [e3]; exact hreg
  have hsh := eq_shape (eq_of_flat s' a 0 (e4 0))
  have hXn : (trcE ss es).n = ne := hT.ev.1
  obtain ⟨M, hM⟩ : ∃ M : Mx, reachT ne (valL (valsT (trcE ss es) a)) a 0 = M := ⟨_, rfl⟩
  have hMv : ∀ vs : List (List (BitVec 64)), (∀ i, i < ne → ∀ q, q < testsT a → valS vs i q = valL (valsT (trcE ss es) a) i q) → EqM ne (reachT ne (valS vs) s' 0) M := fun vs h => by
    rw [shape_reach ne _ 0 hsh, ← hM]
    exact reach_congr ne _ _ a 0 0 fun j hj q hq => by rw [Nat.zero_add]; exact h j hj q hq
  obtain ⟨R, hR⟩ : ∃ R : Nat → Bool, (fun q => anyB (matchB (trcE ss es) hd.kind hd.lo hd.hi M q) ne) = R := ⟨_, rfl⟩
  have hres : ∀ q, q < ne → R q = satT (trcE ss es) (t.sub i) q := fun q hq => by
    have hb := matchB_un (trcE ss es) hd hk (satT (trcE ss es) a) M (i := q) (by rw [hXn]; exact hq)
    rw [hXn] at hb
    rw [← hR, hx, sat_un, hXn, hM]
    exact hb
  obtain ⟨Q, hQ⟩ : ∃ Q : Nat → Nat → Bool, Q = fun q j => matchB (trcE ss es) hd.kind hd.lo hd.hi M q j := ⟨_, rfl⟩
  have hRQ : ∀ q, R q = anyB (Q q) ne := fun q => by rw [← hR, hQ]
  have hQQ : ∀ q j, Q q j = (((decide (hd.kind = 16) && (decide (j ≤ q) && M j q)) || (decide (hd.kind = 17) && (decide (q ≤ j) && M q j))) && hasD hd.lo hd.hi (gapE es q j)) := fun q j => by rw [hQ]; rfl
  have hfl : (a.flat 0).length = a.size := Tr.length_flat a 0
  obtain ⟨P, hP⟩ : ∃ P, a.size = P := ⟨_, rfl⟩
  rw [hP] at hVa
  have hPb : P ≤ 1000 := by have := Tr.sub_size_le t r hrt; rw [k2] at this; omega
  have HVA := Lib.hid hVa
  have HMV := Lib.hid hMv
  have HRES := Lib.hid hres
  have HRQ := Lib.hid hRQ
  have HQQ := Lib.hid hQQ
  have HS' := Lib.hid hs'
  have HREG' := Lib.hid hreg'
  have HFL : Hid ((a.flat 0).length = P) := Lib.hid (by rw [hfl, hP])
  have HTT := Lib.hid hT
  have HF := Lib.hid hF
  have hiN : (i : Int) < (N : Int) := by omega
  have hiN2 : i < N := by omega
  obtain ⟨gt, hgt⟩ : ∃ gt, gt = w.heap.size := ⟨_, rfl⟩
  obtain ⟨W1, hW1⟩ : ∃ W1, W1 = w.alloc (.cells #[.slice An nn cn, .slice Ae ne ce] 43) := ⟨_, rfl⟩
  obtain ⟨W, hW⟩ : ∃ W, W = (W1.alloc (.cells #[.int .i64 hd.kind, .string hd.name, .int .i64 hd.lo, .int .i64 hd.hi, .slice (some ak) 1 ck] 62)).alloc (.cells (rowV ne fun _ => false) 4) := ⟨_, rfl⟩
  have hz1 : W1.heap.size = gt + 1 := by rw [hW1, hgt]; simp
  have hb1 : Below w.heap.size w W1 := by rw [hW1]; exact balloc _ _
  have hbW : Below w.heap.size w W := by rw [hW]; exact (hb1.alloc hb1.size _).alloc (by simp; omega) _
  have hBT : Blk W gt 43 #[.slice An nn cn, .slice Ae ne ce] := by rw [hW, hW1, hgt]; exact ((Blk.new _ _ _).alloc _).alloc _
  have hBX : Blk W (gt + 1) 62 #[.int .i64 hd.kind, .string hd.name, .int .i64 hd.lo, .int .i64 hd.hi, .slice (some ak) 1 ck] := by rw [hW, ← hz1]; exact (Blk.new _ _ _).alloc _
  have hBO : Blk W (gt + 1 + 1) 4 (rowV ne fun _ => false) := by rw [hW, show gt + 1 + 1 = W1.heap.size + 1 by omega]; exact Blk.new2 _ _ _ _
  obtain ⟨d0, d1, d2, d3, d4⟩ := hdc.sat (hF.below hb1)
  dsimp only at d0 d1 d2 d3 d4
  simp only [List.length_cons, List.length_nil, Nat.zero_add] at d4
  rw [hW1] at d0 d1 d2 d3 d4
  have HFW := Lib.hid (hF.below hbW)
  have HBW := Lib.hid hbW
  have HBT := Lib.hid hBT
  have HBX := Lib.hid hBX
  have HBO := Lib.hid hBO
  have HW1 := Lib.hid hW1
  have HW := Lib.hid hW
  have HG := Lib.hid hgt
  have HZ1 := Lib.hid hz1
  have HK0 := Lib.hid hk0
  have hmkB := fun (Y : World) => makeB ne (by have := hT.ne1; omega) Y
  have hneb := hT.ne1
  have hFo : Hid (F (gt + 1 + 1) = none) := Lib.hid (hF.none_ (by omega))
  have hr1 := (hF.below hbW).cell hk0
  clear hVa hMv hres hRQ hQQ hs' hreg' hfl hT hP hR hQ hM hsh hXn hf hw hva har hsp hl ht hrows hx hL hK hdc hck hnd hkk k1 k2 e1 e2 e3 e4 hk0 hF hW1 hW hgt hz1 hb1 hbW hBT hBX hBO hreg hr hlen hNN hil
  obtain ⟨kd, hkd⟩ : ∃ kd, hd.kind = kd := ⟨_, rfl⟩
  obtain ⟨lo, hlo⟩ : ∃ lo, hd.lo = lo := ⟨_, rfl⟩
  obtain ⟨hh', hhi⟩ : ∃ hi', hd.hi = hi' := ⟨_, rfl⟩
  obtain ⟨nm, hnm⟩ : ∃ nm, hd.name = nm := ⟨_, rfl⟩
  rw [hkd] at hk d0 HBX HW HQQ
  rw [hlo] at d2 HBX HW HQQ hsp'
  rw [hhi] at d3 HBX HW HQQ hsp'
  rw [hnm] at d1 HBX HW
  clear hkd hlo hhi hnm
  have g1617 : ((kd == 16) = true) ∨ ((kd == 16) = false ∧ (kd == 17) = true) := by
    rcases hk with e | e
    · left; rw [e]; rfl
    · right; rw [e]; exact ⟨rfl, rfl⟩
  obtain ⟨x0, x1, x2, x3, x4⟩ := blk5 HBX.out
  go_enter Tryz.func75, Tryz.ntmps75
  go_upto_region 3 with fail
  rw [← HW1.out, ← HW.out, ← HG.out]
  go_cut [34] from 27 to 34 (fun c wx => c = .bool true ∧ wx = W)
  case first =>
    rcases g1617 with g16 | ⟨g16, g17⟩
    · go_wp2_with fail
      go_meet
      exact ⟨rfl, rfl⟩
    · go_wp2_with fail
      go_meet
      exact ⟨rfl, rfl⟩
  case rest =>
    obtain ⟨rfl, rfl⟩ := hcut
    clear d0 d1 d2 d3 d4
    go_wp2_with fail
    go_at_call 113
    refine (HVA.out _ HFW.out).mono ?_
    rintro e w3 ⟨Ar, cr, gv, vs, rfl, hcr, hNr, hRv, hvs, hb3⟩
    have HRT := Lib.hid (rReachTab (sat_heapF w3) (a.flat 0) (by rw [HFL.out]; exact hPb) Ar P cr hNr (some ⟨gv, 0, none⟩) ne ne hneb vs hRv)
    have HMM := Lib.hid (HMV.out vs hvs)
    have HB3 := Lib.hid hb3
    clear hNr hRv hvs hcr hb3 x0 x1 x2 x3 x4 hr1
    go_wp2_with fail
    go_at_call 114
    refine HRT.out.mono ?_
    rintro e w4 ⟨A4, c4, rfl, hb4, hsq⟩
    rw [if_pos (reg_of HS'.out HREG'.out)]
    have hsq2 : 0 < ne → ∃ g, A4 = some ⟨g, 0, none⟩ ∧ w3.heap.size ≤ g ∧ SqF (heapF w4) g ne M := fun h0 => by
      obtain ⟨g, h1, _, h2, h3⟩ := hsq s' HS'.out HREG'.out h0
      exact ⟨g, h1, h2, h3.congr HMM.out⟩
    have hb34 := bthen HB3.out hb4
    have HSQ := Lib.hid hsq2
    have HBT4 := Lib.hid (HBT.out.call hb34)
    have HBX4 := Lib.hid (HBX.out.call hb34)
    have HBO4 := Lib.hid (HBO.out.call hb34)
    have HF4 := Lib.hid (HFW.out.below hb34)
    have HB4 := Lib.hid (bthen HBW.out hb34)
    have hz3 : gt + 1 + 1 < w3.heap.size := (HBO.out.call HB3.out).lt
    have hgw : w.heap.size ≤ gt + 1 + 1 := by have := HG.out; omega
    clear hsq hsq2 hb34 hb4 HRT HMM HB3
    go_wp2_with fail
    go_loopw [50] (fun v50 wr => ∃ p : Nat, p ≤ ne ∧ v50 = .int .i64 p ∧ Blk wr (gt + 1 + 1) 4 (rowV ne (rowM R p false)) ∧ Wr [gt + 1 + 1] w4 wr) (fun v50 _ => ne - (intOf v50).toNat)
    case atStart => exact ⟨0, Nat.zero_le _, rfl, by rw [rowV_congr (r' := fun _ => false) (fun j _ => by simp [rowM])]; exact HBO4.out, .refl _ _⟩
    case round =>
      obtain ⟨p, hp, rfl, hBO, hwr⟩ := hrel
      by_cases hlt : p < ne
      · have hpI : (p : Int) < (ne : Int) := by omega
        obtain ⟨w9, hw9⟩ : ∃ w9, w9 = wr := ⟨_, rfl⟩
        subst hw9
        obtain ⟨g, rfl, hg3, hS⟩ := HSQ.out (by omega)
        have HS := Lib.hid hS
        clear hS
        go_wp2_with fail
        go_loopw [54] (fun v54 wr => ∃ j : Nat, j ≤ ne ∧ v54 = .int .i64 j ∧ Blk wr (gt + 1 + 1) 4 (rowV ne (rowM R p (anyB (Q p) j))) ∧ Wr [gt + 1 + 1] w4 wr) (fun v54 _ => ne - (intOf v54).toNat)
        case atStart => exact ⟨0, Nat.zero_le _, rfl, hBO, hwr⟩
        case round =>
          obtain ⟨j, hj, rfl, hBO, hwr⟩ := hrel
          by_cases hjn : j < ne
          · have hjI : (j : Int) < (ne : Int) := by omega
            have m1 := hwr.cellV (a := ⟨g, j, none⟩) (by simp; omega) (HS.out.slot hjn)
            have m2 := hwr.cellV (a := ⟨g + 1 + j, p, none⟩) (by simp; omega) (HS.out.val hjn hlt)
            have m3 := hwr.cellV (a := ⟨g, p, none⟩) (by simp; omega) (HS.out.slot hlt)
            have m4 := hwr.cellV (a := ⟨g + 1 + p, j, none⟩) (by simp; omega) (HS.out.val hlt hjn)
            have HBTr := Lib.hid (hwr.blk HBT4.out (by simp; omega))
            have HBXr := Lib.hid (hwr.blk HBX4.out (by simp))
            obtain ⟨x0, x1, x2, x3, x4⟩ := blk5 HBXr.out
            obtain ⟨mm, hmm⟩ : ∃ mm, ((decide (kd = 16) && (decide (j ≤ p) && M j p)) || (decide (kd = 17) && (decide (p ≤ j) && M p j))) = mm := ⟨_, rfl⟩
            have hq := HQQ.out p j
            rw [hmm] at hq
            obtain ⟨o, ho⟩ : ∃ o, anyB (Q p) j = o := ⟨_, rfl⟩
            have hstep : anyB (Q p) (j + 1) = (o || (mm && hasD lo hh' (gapE es p j))) := by rw [anyB, ho, hq]
            rw [ho] at hBO
            have HST := Lib.hid hstep
            have HMM := Lib.hid hmm
            have HBO5 := Lib.hid hBO
            have HWR := Lib.hid hwr
            clear hstep hmm hq ho hBO hwr
            go_upto_region 12 with fail
            go_cut [92] from 57 to 92 (fun c wx => c = .bool mm ∧ wx = wr)
            case first =>
              obtain ⟨b1, hb1⟩ : ∃ b1, M j p = b1 := ⟨_, rfl⟩
              obtain ⟨b2, hb2⟩ : ∃ b2, M p j = b2 := ⟨_, rfl⟩
              rw [hb1] at m2
              rw [hb2] at m4
              rw [hb1, hb2] at HMM
              clear hb1 hb2
              rcases hk with rfl | rfl
              · by_cases hjp : j ≤ p
                · have q1 : (j : Int) ≤ (p : Int) := by omega
                  have HV : Hid (b1 = mm) := Lib.hid (by rw [← HMM.out]; simp [hjp])
                  clear HMM
                  cases b1
                  all_goals
                    go_wp2_with fail
                    go_meet
                    exact ⟨by rw [← HV.out], rfl⟩
                · have q1 : decide ((j : Int) ≤ (p : Int)) = false := decide_eq_false (by omega)
                  have q2 : decide (j ≤ p) = false := decide_eq_false hjp
                  have HV : Hid (false = mm) := Lib.hid (by rw [← HMM.out]; simp [hjp])
                  clear HMM
                  go_wp2_with fail
                  go_meet
                  exact ⟨by rw [← HV.out], rfl⟩
              · by_cases hjp : p ≤ j
                · have q1 : (p : Int) ≤ (j : Int) := by omega
                  have HV : Hid (b2 = mm) := Lib.hid (by rw [← HMM.out]; simp [hjp])
                  clear HMM
                  cases b2
                  all_goals
                    go_wp2_with fail
                    go_meet
                    exact ⟨by rw [← HV.out], rfl⟩
                · have q1 : decide ((p : Int) ≤ (j : Int)) = false := decide_eq_false (by omega)
                  have q2 : decide (p ≤ j) = false := decide_eq_false hjp
                  have HV : Hid (false = mm) := Lib.hid (by rw [← HMM.out]; simp [hjp])
                  clear HMM
                  go_wp2_with fail
                  go_meet
                  exact ⟨by rw [← HV.out], rfl⟩
            case rest =>
              obtain ⟨rfl, rfl⟩ := hcut
              clear m1 m2 m3 m4 HMM
              obtain ⟨hb, hhb⟩ : ∃ hb, hasD lo hh' (gapE es p j) = hb := ⟨_, rfl⟩
              rw [hhb] at HST
              have hrs : ∀ (X : World) (b : Bool), Blk X (gt + 1 + 1) 4 (rowV ne (rowM R p o)) → Blk (X.setCell ⟨gt + 1 + 1, p, none⟩ (.bool b)) (gt + 1 + 1) 4 (rowV ne (rowM R p b)) := fun X b h => by
                have h1 := h.set_ p (.bool b)
                rw [set_rowV (r' := rowM R p b) (fun q _ => by unfold rowM; by_cases e : q = p <;> simp [e])] at h1
                exact h1
              have HRS := Lib.hid hrs
              have HAp := Lib.hid (fun (X : World) (h : Sat F X) => apart14_w h es An nn cn Ae ne ce HTT.out.ev p j hlt hjn)
              have HHs := Lib.hid (fun (X : World) => hhb ▸ rhasT_w lo hh' hsp' (gapE es p j) (gapE_lt HTT.out.ev hlt hjn) X)
              have hFr := HWR.out.sat HF4.out (fun g hg => by simp at hg; rw [hg]; exact hFo.out)
              have hcell : ∀ X : World, Blk X (gt + 1 + 1) 4 (rowV ne (rowM R p o)) → X.cell? ⟨gt + 1 + 1, p, none⟩ = some (.bool o) := fun X h => by
                rw [h.cell, get_rowV hlt]
                unfold rowM
                rw [if_pos rfl]
              have HCELL := Lib.hid hcell
              have m5 := hcell _ HBO5.out
              have f5 := HBO5.out.frozen p
              have hgw4 := HWR.out.size
              clear hhb hrs hcell
              cases mm with
              | false =>
                have HEQ : Hid (anyB (Q p) (j + 1) = o) := Lib.hid (by rw [HST.out]; simp)
                go_wp2_with fail
                go_roundw
                case rel => exact ⟨j + 1, by omega, by go_num, by rw [HEQ.out]; exact HBO5.out, HWR.out⟩
                case measure => simp [intOf]; omega
              | true =>
                obtain ⟨t0, t1, _, _⟩ := blkA HBTr.out
                cases o with
                | true =>
                  have HEQ : Hid (anyB (Q p) (j + 1) = true) := Lib.hid (by rw [HST.out]; simp)
                  go_wp2_with fail
                  go_region
                  all_goals
                    go_wp2_with fail
                    go_roundw
                    case rel => exact ⟨j + 1, by omega, by go_num, by rw [HEQ.out]; first | exact HRS.out _ true HBO5.out | exact (HRS.out _ true HBO5.out).drew, by first | exact HWR.out.set (g := gt + 1 + 1) (by simp) p (.bool true) | exact (HWR.out.set (g := gt + 1 + 1) (by simp) p (.bool true)).drewT | exact (HWR.out.drewT).set (g := gt + 1 + 1) (by simp) p (.bool true)⟩
                    case measure => simp [intOf]; omega
                | false =>
                  have HEQ : Hid (anyB (Q p) (j + 1) = hb) := Lib.hid (by rw [HST.out]; simp)
                  go_wp2_with fail
                  go_region_law (first
                    | (go_simp; have hc2x := hc2; go_at_call 115; refine (HHs.out _).mono ?_; rintro e w6 ⟨rfl, hw6⟩; have hc3 : Below wc.heap.size wc w6 := (by refine bel_trans ?_ hw6; first | exact hc2 | exact bel_eqv hc2 rfl rfl rfl rfl); obtain ⟨st0, st1, _, _⟩ := blkA (HBTr.out.call hc3); obtain ⟨sx0, _, sx2, sx3, _⟩ := blk5 (HBXr.out.call hc3); have m6 := HCELL.out _ (HBO5.out.call hc3); have f6 := (HBO5.out.call hc3).frozen p)
                    | (go_simp; go_at_call 116; refine (HAp.out _ (by first | exact hFr | exact hFr.drew)).mono ?_; rintro e w5 ⟨rfl, hw5⟩; have hc2 : Below wc.heap.size wc w5 := (by refine bel_trans ?_ hw5; first | exact Below.refl _ _ | exact bel_eqv (Below.refl _ wc) rfl rfl rfl rfl); obtain ⟨rt0, rt1, _, _⟩ := blkA (HBTr.out.call hc2); obtain ⟨rx0, _, rx2, rx3, _⟩ := blk5 (HBXr.out.call hc2); have m5' := HCELL.out _ (HBO5.out.call hc2); have f5' := (HBO5.out.call hc2).frozen p))
                  all_goals
                    have hB6 := HRS.out _ hb (HBO5.out.call hc3)
                    have hw6' := (HWR.out.bel (hc3.mono hgw4)).set (g := gt + 1 + 1) (by simp) p (.bool hb)
                    go_wp2_with fail
                    go_roundw
                    case rel => exact ⟨j + 1, by omega, by go_num, by rw [HEQ.out]; exact hB6, hw6'⟩
                    case measure => simp [intOf]; omega
          · obtain rfl : j = ne := by omega
            have hdec : decide ((j : Int) < (j : Int)) = false := decide_eq_false (by omega)
            have hRp : rowV j (rowM R p (anyB (Q p) j)) = rowV j (rowM R (p + 1) false) := rowV_congr fun q _ => by rw [← HRQ.out p]; exact rowM_next R p q
            rw [hRp] at hBO
            have HBO5 := Lib.hid hBO
            have HWR := Lib.hid hwr
            clear hRp hBO hwr
            go_wp2_with fail
            go_roundw
            case rel => exact ⟨p + 1, by omega, by go_num, HBO5.out, HWR.out⟩
            case measure => simp [intOf]; omega
      · obtain rfl : p = ne := by omega
        have hdec : decide ((p : Int) < (p : Int)) = false := decide_eq_false (by omega)
        have hRp : rowV p (rowM R p false) = rowV p (satT (trcE ss es) (t.sub i)) := rowV_congr fun q hq => by
          rw [← HRES.out q hq]
          unfold rowM
          rw [if_neg (by omega), decide_eq_true hq, Bool.true_and]
        rw [hRp] at hBO
        have HBO5 := Lib.hid hBO
        have HBF := Lib.hid (HB4.out.trans (hwr.below (fun g hg => by simp at hg; omega) HB4.out.size))
        clear hRp hBO hwr
        go_wp2_with fail
        go_ret
        exact ⟨gt + 1 + 1, rfl, HBF.out, hgw, HBO5.out⟩
end Go.Proofs.YtdbbooibkiicnaaGreat
