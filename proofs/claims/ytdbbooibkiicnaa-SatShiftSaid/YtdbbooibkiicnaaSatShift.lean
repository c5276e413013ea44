/- The walk of the law SatShift. -/
import Derived.Test.YtdbbooibkiicnaaCp8
import Derived.Test.YtdbbooibkiicnaaAw15
import Derived.Test.YtdbbooibkiicnaaBuild
set_option linter.unusedVariables false
set_option linter.unusedSimpArgs false
namespace Go.Proofs.Ytdbbooibkiicnaa
open Go.RowKit
attribute [local go_sem ↓] Go.wp_at_zero Go.wp_at_succ
theorem Own.cellZ {F : Fz} {w : World} {B : Nat} {e : TypeId} {size g n c : Nat} {xs : List Value} (h : Own F w B e size (.slice (some ⟨g, 0, none⟩) n c) n xs) {i : Nat} (hi : i < n * size) : w.cell? ⟨g, i, none⟩ = xs[i]? ∧ w.frozen? ⟨g, i, none⟩ = false ∧ B ≤ g := by
  obtain ⟨⟨hl, h1⟩, h2⟩ := h
  rcases h1 with ⟨h3, _⟩ | ⟨g', cap, cur, h3, hbase, hb, h5, h6, h7, h8⟩
  · cases h3
  · injection h3 with h3 _ h4
    injection h3 with h3
    injection h3 with h3
    subst h3 h4
    have hB : Blk w g e cur := hb
    refine ⟨?_, hB.frozen i, hbase⟩
    rw [hB.cell, ← h8, List.getElem?_take_of_lt (by omega), Array.getElem?_toList]
theorem Own.storeZ {F : Fz} {w : World} {B : Nat} {e : TypeId} {size g n c : Nat} {xs : List Value} (h : Own F w B e size (.slice (some ⟨g, 0, none⟩) n c) n xs) (i : Nat) (y : Value) : Own F (w.setCell ⟨g, i, none⟩ y) B e size (.slice (some ⟨g, 0, none⟩) n c) n (xs.set i y) := by
  obtain ⟨⟨hl, h1⟩, h2⟩ := h
  rcases h1 with ⟨h3, _⟩ | ⟨g', cap, cur, h3, hbase, hb, h5, h6, h7, h8⟩
  · cases h3
  · injection h3 with h3 _ h4
    injection h3 with h3
    injection h3 with h3
    subst h3 h4
    have hB : Blk w g e cur := hb
    refine ⟨⟨by simpa using hl, .inr ⟨g, c, _, rfl, hbase, hB.set_ i y, h5, h6, by simpa using h7, ?_⟩⟩, h2⟩
    rw [Array.toList_setIfInBounds, ← h8, List.take_set]
theorem evC_set : ∀ (xs : List (Nat × Value)) (i : Nat) (t : Nat) (p : Nat × Value), xs[i]? = some p → (evC xs).set (i * 2) (.int .u64 (t : Nat)) = evC (xs.set i (t, p.2))
  | [], i, t, p, h => by simp at h
  | q :: xs, 0, t, p, h => by
    simp at h
    subst h
    simp [evC]
  | q :: xs, i + 1, t, p, h => by
    have := evC_set xs i t p (by simpa using h)
    rw [show evC (q :: xs) = .int .u64 (q.1 : Nat) :: q.2 :: evC xs from rfl, show (i + 1) * 2 = i * 2 + 1 + 1 by omega]
    simp only [List.set_cons_succ]
    rw [this]
    rfl
/-- An event's time is stored anew. -/
theorem OwnE.time_ {w : World} {B g n c : Nat} {es : List Evt} (h : OwnE w B (.slice (some ⟨g, 0, none⟩) n c) es) {i : Nat} {ev : Evt} (hi : es[i]? = some ev) (t : Nat) (ht : t < 18446744073709551616) :
    w.cell? ⟨g, i * 2, none⟩ = some (.int .u64 (ev.time : Nat)) ∧ w.frozen? ⟨g, i * 2, none⟩ = false ∧ B ≤ g ∧ OwnE (w.setCell ⟨g, i * 2, none⟩ (.int .u64 (t : Nat))) B (.slice (some ⟨g, 0, none⟩) n c) (es.set i ⟨t, ev.ids⟩) := by
  obtain ⟨xs, h1, h2, h3⟩ := h
  obtain ⟨A', c', e1, _⟩ := h1.shape
  injection e1 with _ e2 _
  subst e2
  have hil : i < es.length := (List.getElem?_eq_some_iff.1 hi).1
  obtain ⟨p, hp, hpt⟩ := h3 i ev hi
  obtain ⟨g1, _⟩ := get_evC xs i p hp
  obtain ⟨c1, c2, c3⟩ := h1.cellZ (i := i * 2) (by omega)
  obtain ⟨ht0, Ai, ci, e3, e4, e5, e6⟩ := hpt
  have hp1 : p.1 = ev.time := by rw [e3]
  have hids : ∀ (e' : Evt) (q : Nat × Value), IdsAt w B (.slice (some ⟨g, 0, none⟩) es.length c) e' q → IdsAt (w.setCell ⟨g, i * 2, none⟩ (.int .u64 (t : Nat))) B (.slice (some ⟨g, 0, none⟩) es.length c) e' q := fun e' q ⟨a1, a2, a3, a4, a5, a6, a7⟩ =>
    ⟨a1, a2, a3, a4, a5, rd_same a6 fun h0 a ha => Below.heap_setCell w ⟨g, i * 2, none⟩ _ _ (fun e => (a7 h0 a ha).2 (by show some g = some a.block; rw [e])), a7⟩
  refine ⟨by rw [c1, g1, hp1], c2, c3, xs.set i (t, p.2), ?_, by simp [h2], fun j e' hj => ?_⟩
  · rw [List.length_set, ← evC_set xs i t p hp]
    exact h1.storeZ _ _
  · by_cases e : j = i
    · subst e
      rw [List.getElem?_set_self hil] at hj
      injection hj with hj
      subst hj
      refine ⟨(t, p.2), by rw [List.getElem?_set_self (by omega)], ht, Ai, ci, by rw [e3], e4, ?_, e6⟩
      exact (hids ev p ⟨ht0, Ai, ci, e3, e4, e5, e6⟩).2.choose_spec.choose_spec.2.2.1 |> fun _ => rd_same e5 fun h0 a ha => Below.heap_setCell w ⟨g, j * 2, none⟩ _ _ (fun e => (e6 h0 a ha).2 (by show some g = some a.block; rw [e]))
    · rw [List.getElem?_set_ne (fun x => e x.symm)] at hj
      obtain ⟨q, hq, hqi⟩ := h3 j e' hj
      exact ⟨q, by rw [List.getElem?_set_ne (fun x => e x.symm)]; exact hq, hids e' q hqi⟩
theorem u64_nat {x : Int} (h : (Lit.int .u64 x).wf = true) : ∃ k : Nat, k < 18446744073709551616 ∧ x = (k : Int) := by
  simp [Lit.wf, IntKind.min, IntKind.max, IntKind.signed, IntKind.bits] at h
  exact ⟨x.toNat, by omega, by omega⟩
def laterTo (d m : Nat) (es : List Evt) : List Evt := (es.take m).map (fun e => ⟨e.time + d, e.ids⟩) ++ es.drop m
theorem laterTo_all (d : Nat) (es : List Evt) : laterTo d es.length es = laterE d es := by simp [laterTo, laterE]
theorem laterTo_len (d m : Nat) (es : List Evt) : (laterTo d m es).length = es.length := by simp [laterTo]; omega
theorem laterTo_at {d m : Nat} {es : List Evt} (h : m < es.length) : (laterTo d m es)[m]? = some es[m] := by
  unfold laterTo
  rw [List.getElem?_append_right (by simp; omega)]
  simp [Nat.min_eq_left (Nat.le_of_lt h), h]
theorem laterTo_step {d m : Nat} {es : List Evt} (h : m < es.length) : (laterTo d m es).set m ⟨es[m].time + d, es[m].ids⟩ = laterTo d (m + 1) es := by
  apply List.ext_getElem?
  intro j
  rcases Nat.lt_trichotomy j m with hj | hj | hj
  · rw [List.getElem?_set_ne (by omega)]
    unfold laterTo
    rw [List.getElem?_append_left (by simp; omega), List.getElem?_append_left (by simp; omega), List.getElem?_map, List.getElem?_map, List.getElem?_take_of_lt (by omega), List.getElem?_take_of_lt (by omega)]
  · subst hj
    rw [List.getElem?_set_self (by rw [laterTo_len]; exact h)]
    unfold laterTo
    rw [List.getElem?_append_left (by simp; omega), List.getElem?_map, List.getElem?_take_of_lt (by omega), List.getElem?_eq_getElem h]
    rfl
  · rw [List.getElem?_set_ne (by omega)]
    unfold laterTo
    rw [List.getElem?_append_right (by simp; omega), List.getElem?_append_right (by simp; omega), List.getElem?_drop, List.getElem?_drop]
    congr 1
    simp
    omega
theorem equalNil_w (w : World) : Calls Try.prog 19 #[.slice none 0 0, .slice none 0 0] w fun e w' => e = .returned (.bool true) ∧ ∃ k, w' = w.drewN k := by
  go_enter Try.func19, Try.ntmps19
  go_wp2_with fail
  go_loopw [13] (fun i wr => i = .int .i64 0 ∧ wr = w) (fun _ _ => 0)
  case atStart => exact ⟨rfl, rfl⟩
  case round =>
    obtain ⟨rfl, rfl⟩ := hrel
    go_wp2_with fail
    go_ret
    exact ⟨rfl, 0, rfl⟩
set_option maxRecDepth 100000 in
set_option maxHeartbeats 2000000 in
theorem satShift_c {F : Fz} {w : World} (hF : Sat F w) (s b : Nat) (hs : s < 18446744073709551616) (hb : b < 18446744073709551616) (ts ns : List Nat) (hts : ∀ k ∈ ts, k < 65536) (hns : ∀ k ∈ ns, k < 65536) (A1 : Option Addr) (n1 c1 : Nat) (hr1 : Rd F 1 A1 n1 (ts.map encW)) (A2 : Option Addr) (n2 c2 : Nat) (hr2 : Rd F 1 A2 n2 (ns.map encW)) :
    Calls Try.prog 4 #[.int .u64 (s : Nat), .int .u64 (b : Nat), .slice A1 n1 c1, .slice A2 n2 c2] w fun e w' => e = .returned (.bool true) ∧ Below w.heap.size w w' := by
  have HK8 := Lib.hid (mk8_w hF s hs ts hts A1 n1 c1 hr1)
  have HM5 := Lib.hid (fun (X : World) (h : Sat F X) => make_w h ns hns A2 n2 c2 hr2 false (makeT false ns) rfl)
  have hsz := (make_size false ns).1
  have hok := (make_ok false ns hns).1
  obtain ⟨hval, hreg, _⟩ := okF_iff.1 hok
  obtain ⟨t0, ht0⟩ : ∃ t0, min s 9223372036854775808 = t0 := ⟨_, rfl⟩
  have ht0b : t0 ≤ 9223372036854775808 := by omega
  obtain ⟨es, hes⟩ : ∃ es, evM t0 (ts.take 60) = es := ⟨_, rfl⟩
  have hel : es.length ≤ 60 := by rw [← hes, length_evM, List.length_take]; omega
  have hem : mayT namesM es = true := by rw [← hes]; exact mayT_evM _ _
  have heid : ∀ e ∈ es, e.ids.length ≤ 3 := by rw [← hes]; exact evM_ids _ _
  have het : ∀ i, timeE es i ≤ 9290927931265253376 := fun i => by rw [← hes]; exact evM_time ht0b (by rw [List.length_take]; omega) i
  rw [ht0, hes] at HK8
  obtain ⟨f, hf⟩ : ∃ f, (makeT false ns).flat 0 = f := ⟨_, rfl⟩
  have hfl : f.length ≤ 100 := by rw [← hf, Tr.length_flat]; exact hsz
  have hff : formL f = true := by rw [← hf]; exact (ok_form hok).1
  rw [hf] at HM5
  obtain ⟨d, hd⟩ : ∃ d, b % 4611686018427387904 = d := ⟨_, rfl⟩
  have hdb : d < 4611686018427387904 := by omega
  have hdI : (b : Int) % 4611686018427387904 = (d : Int) := by omega
  have hdT : (b : Int).tmod 4611686018427387904 = (d : Int) := by rw [Int.tmod_eq_emod_of_nonneg (by omega)]; exact hdI
  obtain ⟨ne, hne⟩ : ∃ ne, es.length = ne := ⟨_, rfl⟩
  obtain ⟨N, hN⟩ : ∃ N, f.length = N := ⟨_, rfl⟩
  obtain ⟨ok, hok'⟩ : ∃ ok, okA namesM es f = ok := ⟨_, rfl⟩
  obtain ⟨S, hS⟩ : ∃ S, allA namesM es f = S := ⟨_, rfl⟩
  have hokd : ok = decide (0 < ne) := by rw [← hok', okA, hem, hff, hne]; rfl
  have hok2 : okA namesM (laterE d es) f = ok := by rw [← hok', okA, okA, mayT_later]; simp [laterE]
  have hS2 : ∀ i, i < ne → allA namesM (laterE d es) f i = S i := fun i hi => by
    rw [← hS]
    unfold allA
    cases treeS f with
    | some t => exact sat_later d namesM es t i (by omega)
    | none => rfl
  have HES := Lib.hid hne
  have HFN := Lib.hid hN
  have HEID := Lib.hid heid
  have HET := Lib.hid het
  have HOK := Lib.hid hok'
  have HOK2 := Lib.hid hok2
  have HS := Lib.hid hS
  have HS2 := Lib.hid hS2
  have hneb : ne ≤ 60 := by omega
  have hNb : N ≤ 100 := by omega
  clear hsz hok hval hreg ht0 ht0b hes hem heid het hf hff hd hel hfl hne hN hok' hS hok2 hS2 hr1 hr2 hts hns
  go_enter Try.func4, Try.ntmps4
  go_wp2_with (first
    | (go_at_call 16; refine HK8.out.mono ?_; rintro e w1 ⟨An, cn, ve, B, rfl, hcn, hNm, hO, hB, hAb, hb1⟩; obtain ⟨Ae, ce, rfl, hce, hE, hAe⟩ := hO.done; rw [HES.out] at hce hE; rw [HES.out]; rw [show namesM.length = 3 from rfl] at hcn hNm; rw [show namesM.length = 3 from rfl]; have hF1 := hF.below hb1)
    | (go_at_call 9; refine (HM5.out _ hF1).mono ?_; rintro e w2 ⟨A5, c5, F5, rfl, hc5, hN5, hb2, hF5, hle5⟩; rw [HFN.out] at hc5 hN5; rw [HFN.out]))
  have hb12 := bthen hb1 hb2
  have hs12 := (sat_heapF w1).below hb2
  have hE2 : EvsF (heapF w2) Ae ne es := hE.cle hs12.cle
  have hNm' : Rd (heapF w2) 1 An 3 (namesM.map Value.string) := hNm.heap hs12
  have hNd : NodesF (heapF w2) A5 N f := hN5.cle hF5.cle
  obtain ⟨gx, hgx⟩ : ∃ gx, gx = w2.heap.size := ⟨_, rfl⟩
  obtain ⟨W, hW⟩ : ∃ W, W = w2.alloc (.cells #[.slice An 3 cn, .slice Ae ne ce] 41) := ⟨_, rfl⟩
  have hBX : Blk W gx 41 #[.slice An 3 cn, .slice Ae ne ce] := by rw [hW, hgx]; exact Blk.new _ _ _
  have hbW : Below w2.heap.size w2 W := by rw [hW]; exact balloc _ _
  have hF2W := (sat_heapF w2).below hbW
  have HC := Lib.hid (copy8_w hF2W namesM es An 3 cn (by omega) hNm' Ae ne ce (by omega) hE2 (fun e he => Nat.le_trans (HEID.out e he) (by omega)))
  have HA1 := Lib.hid (fun (X : World) (h : Sat (heapF w2) X) => sAll_w h namesM es An 3 cn hcn hNm' Ae ne ce hE2 (fun e he => Nat.le_trans (HEID.out e he) (by omega)) (by omega) f (by rw [HFN.out]; omega) A5 N c5 hc5 hNd ok HOK.out S HS.out)
  have HND := Lib.hid hNd
  have HBX := Lib.hid hBX
  have HB12 := Lib.hid hb12
  have HBW := Lib.hid hbW
  obtain ⟨x0, x1, _, _⟩ := blkA hBX
  rw [← hgx, ← hW]
  clear hE2 hNm' hNd hBX hb12 hs12 hE hNm hN5 hF5 hle5 hb1 hb2 hO hB hAb hAe hF2W hbW hF1 hce hgx hW
  refine HC.out.mono ?_
  rintro e w3 ⟨An2, cn2, ve2, B2, rfl, hcn2, hNm2, hO2, hB2, hAb2, hb3⟩
  rw [show namesM.length = 3 from rfl] at hcn2 hNm2 hAb2
  rw [show namesM.length = 3 from rfl]
  obtain ⟨Av, cv, hve, hcv⟩ := hO2.shape
  rw [HES.out] at hve hcv
  subst hve
  obtain ⟨gv, hgv⟩ : ∃ gv, (0 < ne → Av = some ⟨gv, 0, none⟩) ∧ B2 ≤ gv ∧ gv ≠ w3.heap.size := by
    rcases Nat.eq_zero_or_pos ne with h0 | h0
    · exact ⟨w3.heap.size + B2 + 1, fun h => by omega, by omega, by omega⟩
    · obtain ⟨xs, h1, _⟩ := hO2
      rcases Own.blk h1 with ⟨_, h9, _⟩ | ⟨g, cap, h2, _, h4, _, h6⟩
      · rw [HES.out] at h9; omega
      · injection h2 with h2 _ _
        exact ⟨g, fun _ => h2, h4, by have := h6.lt; omega⟩
  obtain ⟨hAv, hgB, hgn⟩ := hgv
  obtain ⟨gy, hgy⟩ : ∃ gy, gy = w3.heap.size := ⟨_, rfl⟩
  obtain ⟨W3, hW3⟩ : ∃ W3, W3 = w3.alloc (.cells #[.slice An2 3 cn2, .slice Av ne cv] 41) := ⟨_, rfl⟩
  have hBY : Blk W3 gy 41 #[.slice An2 3 cn2, .slice Av ne cv] := by rw [hW3, hgy]; exact Blk.new _ _ _
  have hbW3 : Below w3.heap.size w3 W3 := by rw [hW3]; exact balloc _ _
  have hO3 := hO2.call hbW3
  have hN3 : Rd (hx W3 [gv]) 1 An2 3 (namesM.map Value.string) := rd_hxG (rd_call hNm2 hbW3) (fun h0 a ha => by have := hAb2 h0 a ha; simp; omega)
  have hX3 := (HBX.out.call hb3).call hbW3
  have hbA : Below w2.heap.size w2 W3 := bthen (bthen HBW.out hb3) hbW3
  have hxl := hX3.lt
  have hgvx : gv ≠ gx := by have := HBX.out.lt; omega
  have hgvy : gv ≠ gy := by omega
  obtain ⟨y0, y1, _, _⟩ := blkA hBY
  have HW3 := Lib.hid hW3
  have HO3 := Lib.hid hO3
  have HN3 := Lib.hid hN3
  have HX3 := Lib.hid hX3
  have HBY := Lib.hid hBY
  have HBA := Lib.hid hbA
  have hw2B : w2.heap.size ≤ gv := by have := HBW.out.size; omega
  clear hNm2 hO2 hAb2 hb3 hbW3 hO3 hN3 hX3 hBY hbA hW3 x0 x1
  go_wp2_with fail
  rw [← HW3.out, ← hgy]
  clear hgy
  go_loopw [12, 24] (fun _ v24 wr => ∃ m : Nat, m ≤ ne ∧ v24 = .int .i64 m ∧ OwnE wr B2 (.slice Av ne cv) (laterTo d m es) ∧ Wr [gv] W3 wr) (fun _ v24 _ => ne - (intOf v24).toNat)
  case atStart => exact ⟨0, Nat.zero_le _, rfl, by simpa [laterTo] using HO3.out, .refl _ _⟩
  case round =>
    obtain ⟨m, hm, rfl, hO, hwr⟩ := hrel
    obtain ⟨y0, y1, _, _⟩ := blkA (hwr.blk HBY.out (by simp; omega))
    by_cases hmn : m < ne
    · have hmI : (m : Int) < (ne : Int) := by omega
      obtain rfl := hAv (by omega)
      have hml : m < es.length := by rw [HES.out]; exact hmn
      have htm := HET.out m
      have hte : timeE es m = es[m].time := by unfold timeE; rw [List.getElem?_eq_getElem hml]
      have hst := laterTo_step (d := d) hml
      rw [hte] at htm
      obtain ⟨q0, q1, q2, q3⟩ := hO.time_ (laterTo_at (d := d) hml) (es[m].time + d) (by omega)
      rw [hst] at q3
      generalize es[m].time = tm at *
      have hwrap : IntKind.u64.wrap ((tm : Int) + (d : Int)) = ((tm + d : Nat) : Int) := by rw [wrap_u64 (by omega) (by omega)]; omega
      obtain ⟨td, htd⟩ : ∃ td, tm + d = td := ⟨_, rfl⟩
      rw [htd] at hwrap q3
      have HQ := Lib.hid q3
      have HWQ := Lib.hid (hwr.set (g := gv) (by simp) (m * 2) (.int .u64 (td : Nat)))
      clear q3 hst hO hwr hte htd
      go_wp2_with fail
      go_roundw
      case rel => exact ⟨m + 1, by omega, by go_num, HQ.out, HWQ.out⟩
      case measure => simp [intOf]; omega
    · obtain rfl : m = ne := by omega
      have hdec : decide ((m : Int) < (m : Int)) = false := decide_eq_false (by omega)
      rw [show laterTo d m es = laterE d es by rw [← HES.out, laterTo_all]] at hO
      have hll : (laterE d es).length = m := by rw [← HES.out]; simp [laterE]
      obtain ⟨Av', cv', ev, _, hE3, _⟩ := hO.done
      rw [hll] at ev hE3
      injection ev with ev _ ev3
      subst ev ev3
      have hN3 : Rd (heapF wr) 1 An2 3 (namesM.map Value.string) := (HN3.out.cle hwr.cle).heap (sat_hx wr [gv])
      have hbr : Below w2.heap.size w2 wr := HBA.out.trans (hwr.below (fun g hg => by simp at hg; omega) HBA.out.size)
      have hS2 : Sat (heapF w2) wr := (sat_heapF w2).below hbr
      have HA2 := Lib.hid (fun (X : World) (h : Sat (heapF wr) X) => sAll_w h namesM (laterE d es) An2 3 cn2 hcn2 hN3 Av m cv hE3 (fun e he => by
        obtain ⟨e', he', rfl⟩ := List.mem_map.1 he
        exact Nat.le_trans (HEID.out e' he') (by omega)) (by omega) f (by rw [HFN.out]; omega) A5 N c5 hc5 (HND.out.cle hS2.cle) ok HOK2.out _ rfl)
      have hBXr := hwr.blk HX3.out (by simp; omega)
      have hBYr := hwr.blk HBY.out (by simp; omega)
      obtain ⟨x0, x1, _, _⟩ := blkA hBXr
      have HXR := Lib.hid hBXr
      have HYR := Lib.hid hBYr
      have HBR := Lib.hid (bthen HB12.out hbr)
      have hnn : ((m : Int) == (m : Int)) = true := by simp
      clear hE3 hN3 hll hO hbr hBXr hBYr
      go_wp2_with fail
      go_at_call 18
      refine (HA1.out _ hS2).mono ?_
      rintro e w5 (⟨hok5, rfl, hb5⟩ | ⟨hok5, g1, rfl, hb5, hg1, hk1⟩)
      · have hm0 : m = 0 := by
          rw [hok5] at hokd
          have := of_decide_eq_false hokd.symm
          omega
        obtain ⟨x0, x1, _, _⟩ := blkA (HXR.out.call hb5)
        obtain ⟨y0, y1, _, _⟩ := blkA (HYR.out.call hb5)
        have hm0I : ((0 : Int) == (m : Int)) = true := by rw [hm0]; rfl
        have hS5 := (sat_heapF wr).below hb5
        clear hm0
        go_wp2_with fail
        go_at_call 18
        refine (HA2.out _ hS5).mono ?_
        rintro e w6 (⟨_, rfl, hb6⟩ | ⟨h, _⟩)
        · go_wp2_with fail
          go_at_call 19
          refine (equalNil_w _).mono ?_
          rintro e w7 ⟨rfl, k7, rfl⟩
          go_wp2_with fail
          refine (awake15_w _).mono ?_
          rintro e w8 ⟨rfl, hb8⟩
          go_wp2_with fail
          go_ret
          exact ⟨rfl, bthen HBR.out (bthen (bthen hb5 hb6) (bthen (below_drewN (Below.refl _ _) k7) hb8))⟩
        · rw [hok5] at h; cases h
      · obtain ⟨x0, x1, _, _⟩ := blkA (HXR.out.call hb5)
        obtain ⟨y0, y1, _, _⟩ := blkA (HYR.out.call hb5)
        have hS5 := (sat_heapF wr).below hb5
        have HK1 := Lib.hid hk1
        clear hk1 hg1
        go_wp2_with fail
        go_at_call 18
        refine (HA2.out _ hS5).mono ?_
        rintro e w6 (⟨h, _⟩ | ⟨_, g2, rfl, hb6, hg2, hk2⟩)
        · rw [hok5] at h; cases h
        · rw [rowV_congr (fun i hi => HS2.out i hi)] at hk2
          have HEQ := Lib.hid (equalBools_w (w := w6) (by omega) (HK1.out.call hb6) hk2)
          clear hk2 hg2
          go_wp2_with fail
          go_at_call 19
          refine HEQ.out.mono ?_
          rintro e w7 ⟨rfl, k7, rfl⟩
          go_wp2_with fail
          refine (awake15_w _).mono ?_
          rintro e w8 ⟨rfl, hb8⟩
          go_wp2_with fail
          go_ret
          exact ⟨rfl, bthen HBR.out (bthen (bthen hb5 hb6) (bthen (below_drewN (Below.refl _ _) k7) hb8))⟩
end Go.Proofs.Ytdbbooibkiicnaa
