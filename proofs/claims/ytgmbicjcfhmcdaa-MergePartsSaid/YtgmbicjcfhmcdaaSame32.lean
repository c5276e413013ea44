/- The walks of slices.Equal on strings, SameEvent, SameEvents, SameTrace. -/
import Derived.Test.YtgmbicjcfhmcdaaNames32
import Derived.Test.YtgmbicjcfhmcdaaEq
set_option linter.unusedVariables false
set_option linter.unusedSimpArgs false
/-! The walks of slices.Equal on strings, SameEvent, SameEvents, SameTrace. -/
namespace Go.Proofs.Ytgmbicjcfhmcdaa
open Go.RowKit
theorem take_sameB {xs ys : List ByteArray} {k : Nat} (h : xs.take k = ys.take k) (hx : k < xs.length) (hy : k < ys.length) (e : xs[k] = ys[k]) : xs.take (k + 1) = ys.take (k + 1) := by
  rw [List.take_succ_eq_append_getElem hx, List.take_succ_eq_append_getElem hy, h, e]
theorem equalStr_w {F : Fz} {w : World} (hF : Sat F w) (fs gs : List ByteArray) (A B : Option Addr) (n n' c d : Nat) (hn : fs.length ≤ 100000) (hf : Rd F 1 A n (fs.map Value.string)) (hg : Rd F 1 B n' (gs.map Value.string)) :
    Calls Try.prog 14 #[.slice A n c, .slice B n' d] w fun e w' => e = .returned (.bool (decide (fs = gs))) ∧ ∃ q, w' = w.drewN q := by
  obtain rfl := rdS_len hf
  obtain rfl := rdS_len hg
  by_cases hl : fs.length = gs.length
  · have hne : ((fs.length : Int) != (gs.length : Int)) = false := by rw [hl]; simp
    have HL := Lib.hid hl
    clear hl
    go_enter Try.func14, Try.ntmps14
    go_wp2
    go_loopw [13] (fun i wr => ∃ k : Nat, k ≤ fs.length ∧ i = .int .i64 k ∧ fs.take k = gs.take k ∧ ∃ q, wr = w.drewN q) (fun i _ => fs.length - (intOf i).toNat)
    case atStart => exact ⟨0, Nat.zero_le _, rfl, rfl, 0, rfl⟩
    case round =>
      obtain ⟨k, hk, rfl, hsame, q, rfl⟩ := hrel
      have HS := Lib.hid hsame
      clear hsame
      by_cases hlt : k < fs.length
      · have hlt' : k < gs.length := by have := HL.out; omega
        obtain ⟨ad, v, rfl, hv, hcell⟩ := hf.at1 hlt
        obtain ⟨bd, v', rfl, hv', hcell'⟩ := hg.at1 hlt'
        obtain rfl : Value.string fs[k] = v := by simpa [hlt] using hv
        obtain rfl : Value.string gs[k] = v' := by simpa [hlt'] using hv'
        have hc := hF.cell hcell
        have hc' := hF.cell hcell'
        clear hv hv' hcell hcell'
        have hI : (k : Int) < (gs.length : Int) := by omega
        by_cases he : fs[k] = gs[k]
        · have hee : (fs[k].toList == gs[k].toList) = true := by rw [he]; simp
          have HE := Lib.hid he
          clear he
          go_wp2
          go_quiet (fail)
          go_wp2
          go_roundw
          case rel => exact ⟨k + 1, by omega, by go_num, take_sameB HS.out hlt hlt' HE.out, _, rfl⟩
          case measure => simp [intOf]; omega
        · have hee : (fs[k].toList == gs[k].toList) = false := (Lib.bytes_beq_false_iff _ _).2 he
          have hfin : decide (fs = gs) = false := decide_eq_false (fun e => he (by subst e; rfl))
          have HFin := Lib.hid hfin
          clear he hfin
          go_wp2
          go_quiet (fail)
          go_wp2
          go_ret
          exact ⟨by rw [HFin.out]; rfl, _, World.drewN_drewN _ _ _⟩
      · have hfin : decide (fs = gs) = true := by
          have h1 := HS.out
          have h2 := HL.out
          rw [List.take_of_length_le (by omega), List.take_of_length_le (by omega)] at h1
          exact decide_eq_true h1
        have HFin := Lib.hid hfin
        clear hfin
        have hltI : decide ((k : Int) < (fs.length : Int)) = false := decide_eq_false (by omega)
        go_wp2
        go_ret
        exact ⟨by rw [HFin.out]; rfl, _, rfl⟩
  · have hne : ((fs.length : Int) != (gs.length : Int)) = true := by rw [bne_iff_ne]; omega
    have HFin := Lib.hid (show decide (fs = gs) = false from decide_eq_false (fun e => hl (by rw [e])))
    go_enter Try.func14, Try.ntmps14
    go_wp2
    go_ret
    exact ⟨by rw [HFin.out]; rfl, 0, rfl⟩
theorem sameEvent_w {F : Fz} {w : World} (hF : Sat F w) (x y : Evt) (A B : Option Addr) (c d n m : Nat) (hn : x.ids.length ≤ 100000) (hr : Rd F 1 A n (x.ids.map (Value.int .i64))) (hs : Rd F 1 B m (y.ids.map (Value.int .i64))) (r : Bool) (hR : r = true ↔ x = y) :
    Calls Try.prog 40 #[.agg #[.int .u64 (x.time : Nat), .slice A n c], .agg #[.int .u64 (y.time : Nat), .slice B m d]] w fun e w' => e = .returned (.bool r) ∧ Below w.heap.size w w' := by
  have HE := Lib.hid (fun (X : World) (hX : Sat F X) => equalInts_w hX x.ids y.ids A B n m c d hn hr hs)
  by_cases ht : x.time = y.time
  · have hti : (x.time : Int) = (y.time : Int) := by omega
    have hrr : decide (x.ids = y.ids) = r := by
      rw [Bool.eq_iff_iff, decide_eq_true_iff, hR]
      cases x; cases y
      simp_all
    have HRR := Lib.hid hrr
    clear hR hr hs hrr
    go_enter Try.func40, Try.ntmps40
    go_wp2_with (go_at_call 17; refine (HE.out _ ((hF.alloc _).alloc _)).mono ?_; rintro e w1 ⟨rfl, q, rfl⟩)
    rw [HRR.out]
    go_ret
    exact ⟨rfl, below_drewN ((balloc w _).alloc (by simp) _) q⟩
  · have hti : ¬ (x.time : Int) = (y.time : Int) := by omega
    have HRR : Hid (r = false) := Lib.hid (by
      cases r with
      | false => rfl
      | true => exact absurd (congrArg Evt.time (hR.1 rfl)) ht)
    clear hR hr hs
    go_enter Try.func40, Try.ntmps40
    go_wp2_with fail
    rw [HRR.out]
    go_ret
    exact ⟨rfl, (balloc w _).alloc (by simp) _⟩
theorem sameEvents_w {F : Fz} {w : World} (hF : Sat F w) (xs ys : List Evt) (A B : Option Addr) (c d n m : Nat) (hx : EvsF F A n xs) (hy : EvsF F B m ys) (hn : n ≤ 100000) (hb : ∀ e ∈ xs, e.ids.length ≤ 100000) (r : Bool) (hR : r = true ↔ xs = ys) :
    Calls Try.prog 28 #[.slice A n c, .slice B m d] w fun e w' => e = .returned (.bool r) ∧ Below w.heap.size w w' := by
  by_cases hl : n = m
  · subst hl
    go_enter Try.func28, Try.ntmps28
    go_wp2_with fail
    go_loopw [5, 13] (fun _ v13 wr => ∃ k : Nat, k ≤ n ∧ v13 = .int .i64 k ∧ Hid (xs.take k = ys.take k) ∧ Below w.heap.size w wr) (fun _ v13 _ => n - (intOf v13).toNat)
    case atStart => exact ⟨0, Nat.zero_le _, rfl, Lib.hid rfl, Below.refl _ _⟩
    case round =>
      obtain ⟨k, hk, rfl, HT, hbl⟩ := hrel
      by_cases hlt : k < n
      · have hxl : k < xs.length := by have := hx.1; omega
        have hyl : k < ys.length := by have := hy.1; omega
        obtain ⟨ax, rfl, hxx⟩ := hx.2 (by omega)
        obtain ⟨ay, rfl, hyy⟩ := hy.2 (by omega)
        obtain ⟨_, Ai, ci, _, r1, c0, c1⟩ := hxx k hxl
        obtain ⟨_, Aj, cj, _, s1, d0, d1⟩ := hyy k hyl
        have hFw := hF.below hbl
        have z0 := hFw.cell c0
        have z1 := hFw.cell c1
        have y0 := hFw.cell d0
        have y1 := hFw.cell d1
        replace z1 : wr.cell? ⟨(ax.add (k * 2)).block, (ax.add (k * 2)).off + 1, none⟩ = some (.slice Ai xs[k].ids.length ci) := z1
        replace y1 : wr.cell? ⟨(ay.add (k * 2)).block, (ay.add (k * 2)).off + 1, none⟩ = some (.slice Aj ys[k].ids.length cj) := y1
        have hkI : (k : Int) < (n : Int) := by omega
        have HSE := Lib.hid (fun (X : World) (hX : Sat F X) (r : Bool) (hR : r = true ↔ xs[k] = ys[k]) => sameEvent_w hX xs[k] ys[k] Ai Aj ci cj _ _ (hb _ (List.getElem_mem hxl)) r1 s1 r hR)
        clear hx hy hxx hyy r1 s1 c0 c1 d0 d1 hb
        have HFR := Lib.hid hFw
        have HBL := Lib.hid hbl
        by_cases he : xs[k] = ys[k]
        · have HE := Lib.hid he
          have HSE1 := Lib.hid (fun (X : World) (hX : Sat F X) => HSE.out X hX true ⟨fun _ => HE.out, fun _ => rfl⟩)
          clear he hbl hFw
          go_upto_region 6 with fail
          go_region_law (go_simp; go_at_call 40; refine (HSE1.out _ (by first | exact HFR.out | exact HFR.out.drew)).mono ?_; rintro e' w5 ⟨rfl, hb5⟩)
          all_goals
            go_wp2_with fail
            go_roundw
            case rel => exact ⟨k + 1, by omega, by go_num, Lib.hid (by rw [List.take_succ_eq_append_getElem hxl, List.take_succ_eq_append_getElem hyl, HT.out, HE.out]), by first | exact bthen HBL.out hb5 | exact bthen HBL.out (bel_eqv hb5 rfl rfl rfl rfl) | exact bthen (bel_drewM HBL.out) hb5⟩
            case measure => simp [intOf]; omega
        · have HRR : Hid (r = false) := Lib.hid (by
            cases r with
            | false => rfl
            | true => have h := hR.1 rfl; subst h; exact absurd rfl he)
          have HSE1 := Lib.hid (fun (X : World) (hX : Sat F X) => HSE.out X hX false ⟨fun h => (by cases h), fun h => absurd h he⟩)
          clear he hbl hFw hR
          go_upto_region 6 with fail
          go_region_law (go_simp; go_at_call 40; refine (HSE1.out _ (by first | exact HFR.out | exact HFR.out.drew)).mono ?_; rintro e' w5 ⟨rfl, hb5⟩)
          all_goals
            go_wp2_with fail
            rw [HRR.out]
            go_ret
            exact ⟨rfl, by first | exact bthen HBL.out hb5 | exact bthen HBL.out (bel_eqv hb5 rfl rfl rfl rfl) | exact bthen (bel_drewM HBL.out) hb5⟩
      · obtain rfl : k = n := by omega
        have hdec : decide ((k : Int) < (k : Int)) = false := decide_eq_false (by omega)
        have HRR : Hid (r = true) := Lib.hid (hR.2 (by
          have h := HT.out
          rwa [List.take_of_length_le (by have := hx.1; omega), List.take_of_length_le (by have := hy.1; omega)] at h))
        clear hR hx hy
        go_wp2_with fail
        rw [HRR.out]
        go_ret
        exact ⟨rfl, hbl⟩
  · have hlI : ¬ (n : Int) = (m : Int) := by omega
    have HRR : Hid (r = false) := Lib.hid (by
      cases r with
      | false => rfl
      | true => have := congrArg List.length (hR.1 rfl); rw [hx.1, hy.1] at this; exact absurd this hl)
    clear hR hx hy
    go_enter Try.func28, Try.ntmps28
    go_wp2_with fail
    rw [HRR.out]
    go_ret
    exact ⟨rfl, Below.refl _ _⟩
theorem sameTrace_w {F : Fz} {w : World} (hF : Sat F w) (t u : TrS) (At Ae Bt Be : Option Addr) (n m n' m' cn ce dn de : Nat) (hn : t.1.length ≤ 100000) (hx : Rd F 1 At n (t.1.map Value.string)) (hy : Rd F 1 Bt n' (u.1.map Value.string)) (hm : m ≤ 100000) (ex : EvsF F Ae m t.2) (ey : EvsF F Be m' u.2) (hb : ∀ e ∈ t.2, e.ids.length ≤ 100000) (r : Bool) (hR : r = true ↔ t = u) :
    Calls Try.prog 11 #[.agg #[.slice At n cn, .slice Ae m ce], .agg #[.slice Bt n' dn, .slice Be m' de]] w fun e w' => e = .returned (.bool r) ∧ Below w.heap.size w w' := by
  have HN := Lib.hid (fun (X : World) (hX : Sat F X) => equalStr_w hX t.1 u.1 At Bt n n' cn dn hn hx hy)
  have HV := Lib.hid (fun (X : World) (hX : Sat F X) (r : Bool) (hR : r = true ↔ t.2 = u.2) => sameEvents_w hX t.2 u.2 Ae Be ce de m m' ex ey hm hb r hR)
  by_cases he : t.1 = u.1
  · have HE : Hid (decide (t.1 = u.1) = true) := Lib.hid (decide_eq_true he)
    have HR : Hid (r = true ↔ t.2 = u.2) := Lib.hid (by rw [hR, Prod.ext_iff]; exact ⟨fun h => h.2, fun h => ⟨he, h⟩⟩)
    clear hR he hx hy ex ey hb
    go_enter Try.func11, Try.ntmps11
    go_wp2_with (first
      | (go_at_call 14; refine (HN.out _ ((hF.alloc _).alloc _)).mono ?_; rintro e w1 ⟨rfl, q, rfl⟩; rw [HE.out])
      | (go_at_call 28; refine (HV.out _ (((hF.alloc _).alloc _).drewN q) r HR.out).mono ?_; rintro e w2 ⟨rfl, hb2⟩))
    go_ret
    exact ⟨rfl, bthen (below_drewN ((balloc w _).alloc (by simp) _) q) hb2⟩
  · have HE : Hid (decide (t.1 = u.1) = false) := Lib.hid (decide_eq_false he)
    have HR : Hid (r = false) := Lib.hid (by
      cases r with
      | false => rfl
      | true => exact absurd (congrArg Prod.fst (hR.1 rfl)) he)
    clear hR he hx hy ex ey hb
    go_enter Try.func11, Try.ntmps11
    go_wp2_with (go_at_call 14; refine (HN.out _ ((hF.alloc _).alloc _)).mono ?_; rintro e w1 ⟨rfl, q, rfl⟩; rw [HE.out])
    rw [HR.out]
    go_ret
    exact ⟨rfl, below_drewN ((balloc w _).alloc (by simp) _) q⟩
end Go.Proofs.Ytgmbicjcfhmcdaa
