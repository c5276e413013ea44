/- The walk of the law SatTurned. -/
import Derived.Test.YtdbbooibkiicnaaTrn15
import Derived.Test.YtdbbooibkiicnaaSatTrn
import Derived.Test.YtdbbooibkiicnaaSatU
import Derived.Test.YtdbbooibkiicnaaAw15
import Derived.Test.YtdbbooibkiicnaaBuild
set_option linter.unusedVariables false
set_option linter.unusedSimpArgs false
namespace Go.Proofs.Ytdbbooibkiicnaa
open Go.RowKit
attribute [local go_sem ↓] Go.wp_at_zero Go.wp_at_succ
theorem u64_nat3 {x : Int} (h : (Lit.int .u64 x).wf = true) : ∃ k : Nat, k < 18446744073709551616 ∧ x = (k : Int) := by
  simp [Lit.wf, IntKind.min, IntKind.max, IntKind.signed, IntKind.bits] at h
  exact ⟨x.toNat, by omega, by omega⟩
theorem trn_reg {T : Tr} (h : regS T.root.kind = false) : regS (trnT T).root.kind = false := by
  rw [trn_root]
  exact ((trn_facts T.root.kind).2.2.2.1).trans h
theorem sat_back2 {ss : List ByteArray} {es : List Evt} (h : mayT ss es = true) {t : Tr} (hv : validT t = true) {n : Nat} (hn : es.length = n) {i : Nat} (hi : i < n) : satT (trcE ss (backE es)) (trnT t) i = satT (trcE ss es) t (n - 1 - i) := by
  have := sat_back h hv (i := n - 1 - i) (by omega)
  rw [hn, show n - 1 - (n - 1 - i) = i by omega] at this
  exact this
theorem back_at {es : List Evt} {n m : Nat} (hn : es.length = n) (hm : m < n) (hl : n - 1 - m < es.length) : (backE es)[m]? = some ⟨timeE es (n - 1) - es[n - 1 - m].time, es[n - 1 - m].ids⟩ := by
  have := get_backE (es := es) (i := n - 1 - m) (by omega)
  rw [hn, show n - 1 - (n - 1 - m) = m by omega] at this
  exact this
theorem back_ids {es : List Evt} {K : Nat} (h : ∀ e ∈ es, e.ids.length ≤ K) : ∀ e ∈ backE es, e.ids.length ≤ K := fun e he => by
  unfold backE at he
  obtain ⟨e', he', rfl⟩ := List.mem_map.1 he
  exact h e' (List.mem_reverse.1 he')
set_option maxRecDepth 100000 in
set_option maxHeartbeats 4000000 in
theorem satTurned_c {F : Fz} {w : World} (hF : Sat F w) (s : Nat) (hs : s < 18446744073709551616) (ts ns : List Nat) (hts : ∀ k ∈ ts, k < 65536) (hns : ∀ k ∈ ns, k < 65536) (A1 : Option Addr) (n1 c1 : Nat) (hr1 : Rd F 1 A1 n1 (ts.map encW)) (A2 : Option Addr) (n2 c2 : Nat) (hr2 : Rd F 1 A2 n2 (ns.map encW)) :
    Calls Try.prog 5 #[.int .u64 (s : Nat), .slice A1 n1 c1, .slice A2 n2 c2] w fun e w' => e = .returned (.bool true) ∧ Below w.heap.size w w' := by
  have HK8 := Lib.hid (mk8_w hF s hs ts hts A1 n1 c1 hr1)
  have HM5 := Lib.hid (fun (X : World) (h : Sat F X) => make_w h ns hns A2 n2 c2 hr2 false (makeT false ns) rfl)
  have hsz := (make_size false ns).1
  have hok := (make_ok false ns hns).1
  obtain ⟨f, hf⟩ : ∃ f, (makeT false ns).flat 0 = f := ⟨_, rfl⟩
  have hff : formL f = true := by rw [← hf]; exact (ok_form hok).1
  rw [hf] at HM5
  obtain ⟨N, hN⟩ : ∃ N, f.length = N := ⟨_, rfl⟩
  have hNb : N ≤ 100 := by rw [← hN, ← hf, Tr.length_flat]; exact hsz
  obtain ⟨T, hT⟩ : ∃ T, treeS f = some T := by
    unfold formL at hff
    cases h : treeS f with
    | none => rw [h] at hff; cases hff
    | some T => exact ⟨T, rfl⟩
  have hreg : regS T.root.kind = false := by unfold formL at hff; rw [hT] at hff; simpa using hff
  have hval := tree_valid hT
  have hfT : f = T.flat 0 := tree_flat hT
  have hzT : T.size = N := by rw [← hN, hfT, Tr.length_flat]
  have hlt' : ((trnT T).flat 0).length = N := by rw [Tr.length_flat, trn_size, hzT]
  obtain ⟨t0, ht0⟩ : ∃ t0, min s 9223372036854775808 = t0 := ⟨_, rfl⟩
  have ht0b : t0 ≤ 9223372036854775808 := by omega
  obtain ⟨es, hes⟩ : ∃ es, evM t0 (ts.take 60) = es := ⟨_, rfl⟩
  have hel : es.length ≤ 60 := by rw [← hes, length_evM, List.length_take]; omega
  have hem : mayT namesM es = true := by rw [← hes]; exact mayT_evM _ _
  have heid : ∀ e ∈ es, e.ids.length ≤ 3 := by rw [← hes]; exact evM_ids _ _
  have het : ∀ i, timeE es i ≤ 9290927931265253376 := fun i => by rw [← hes]; exact evM_time ht0b (by rw [List.length_take]; omega) i
  rw [ht0, hes] at HK8
  obtain ⟨ne, hne⟩ : ∃ ne, es.length = ne := ⟨_, rfl⟩
  have hneb : ne ≤ 60 := by omega
  obtain ⟨bs, hbs⟩ : ∃ bs, backE es = bs := ⟨_, rfl⟩
  have hbl : bs.length = ne := by rw [← hbs, length_backE, hne]
  obtain ⟨V, hV⟩ : ∃ V, satT (trcE namesM es) T = V := ⟨_, rfl⟩
  have hid9 : ∀ e ∈ es, e.ids.length ≤ 1000000000 := fun e he => Nat.le_trans (heid e he) (by omega)
  have hidb : ∀ e ∈ bs, e.ids.length ≤ 1000000000 := by rw [← hbs]; exact back_ids hid9
  have hmb : mayT namesM bs = true := by rw [← hbs]; exact mayT_backE hem
  have hVb : ∀ i, i < ne → satT (trcE namesM bs) (trnT T) i = V (ne - 1 - i) := fun i hi => by rw [← hbs, ← hV]; exact sat_back2 hem hval hne hi
  have hvt := trn_valid T hval
  have hrt := trn_reg hreg
  have HAP := Lib.hid (fun (G : Fz) (X : World) (h : Sat G X) (An : Option Addr) (cn : Nat) (hcn : 3 ≤ cn) (hNm : Rd G 1 An 3 (namesM.map Value.string)) (Ae : Option Addr) (ce : Nat) (hE : EvsF G Ae ne es) (Al : Option Addr) (cl : Nat) (hcl : N ≤ cl) (hl : NodesF G Al N f) => sAllU_w h namesM es hem An 3 cn hcn hNm Ae ne ce hE hid9 (by omega) hval hreg (by omega) Al N cl hcl (by rw [← hfT]; exact hl) V (fun i _ => by rw [hV]))
  have HAB := Lib.hid (fun (G : Fz) (X : World) (h : Sat G X) (An : Option Addr) (cn : Nat) (hcn : 3 ≤ cn) (hNm : Rd G 1 An 3 (namesM.map Value.string)) (Ae : Option Addr) (ce : Nat) (hE : EvsF G Ae ne bs) (Al : Option Addr) (cl : Nat) (hcl : N ≤ cl) (hl : NodesF G Al N ((trnT T).flat 0)) => sAllU_w h namesM bs hmb An 3 cn hcn hNm Ae ne ce hE hidb (by omega) hvt hrt (by rw [trn_size]; omega) Al N cl hcl hl (fun i => V (ne - 1 - i)) hVb)
  have HTN := Lib.hid (fun (G : Fz) (X : World) (h : Sat G X) (A : Option Addr) (c : Nat) (hl : NodesF G A N f) => turned15_w h f (by omega) hT A N c hl)
  have hback : ∀ m ii e1 (hm : m < ne) (h : ii + m + 1 = ne) (h1 : e1 + 1 = ne) (hl : ii < es.length) (hl1 : e1 < es.length), bs[m]? = some ⟨es[e1].time - es[ii].time, es[ii].ids⟩ := fun m ii e1 hm h h1 hl hl1 => by
    obtain rfl : ii = ne - 1 - m := by omega
    obtain rfl : e1 = ne - 1 := by omega
    rw [← hbs, ← timeE_get hl1]
    exact back_at hne hm hl
  have hlast : ∀ i e1 (h1 : e1 + 1 = ne) (hi : i < es.length) (hl1 : e1 < es.length), es[i].time ≤ es[e1].time := fun i e1 h1 hi hl1 => by
    have h1' := time_last hem hi
    rw [hne, show ne - 1 = e1 by omega, timeE_get hi, timeE_get hl1] at h1'
    exact h1'
  have HES := Lib.hid hne
  have HFN := Lib.hid hN
  have HTL := Lib.hid hlt'
  have HBL := Lib.hid hbl
  have HBK := Lib.hid hback
  have HLS := Lib.hid hlast
  have HET := Lib.hid het
  have HEID := Lib.hid heid
  clear hsz hok hff hf hT hreg hval hfT hzT hlt' ht0 ht0b hes hel hem heid het hne hbs hbl hV hid9 hidb hmb hVb hvt hrt hback hlast hN hr1 hr2 hts hns
  go_enter Try.func5, Try.ntmps5
  go_wp2_with (first
    | (go_at_call 16; refine HK8.out.mono ?_; rintro e w1 ⟨An, cn, ve, B, rfl, hcn, hNm, hO, hB, hAb, hb1⟩; obtain ⟨Ae, ce, rfl, hce, hE, hAe⟩ := hO.done; rw [HES.out] at hce hE; rw [HES.out]; rw [show namesM.length = 3 from rfl] at hcn hNm; rw [show namesM.length = 3 from rfl]; have hF1 := hF.below hb1)
    | (go_at_call 9; refine (HM5.out _ hF1).mono ?_; rintro e w2 ⟨A5, c5, F5, rfl, hc5, hN5, hb2, hF5, hle5⟩; rw [HFN.out] at hc5 hN5; rw [HFN.out]))
  have hb12 := bthen hb1 hb2
  have hs12 := (sat_heapF w1).below hb2
  have hE2 : EvsF (heapF w2) Ae ne es := hE.cle hs12.cle
  have hNm' : Rd (heapF w2) 1 An 3 (namesM.map Value.string) := hNm.heap hs12
  have hNd : NodesF (heapF w2) A5 N f := hN5.cle hF5.cle
  obtain ⟨gx, hgx⟩ : ∃ gx, gx = w2.heap.size := ⟨_, rfl⟩
  obtain ⟨W, hW⟩ : ∃ W, W = (w2.alloc (.cells #[.slice An 3 cn, .slice Ae ne ce] 41)).alloc (.cells #[.slice An 3 cn, .slice none 0 0] 41) := ⟨_, rfl⟩
  have hBX : Blk W gx 41 #[.slice An 3 cn, .slice Ae ne ce] := by rw [hW, hgx]; exact (Blk.new _ _ _).alloc _
  have hBU : Blk W (gx + 1) 41 #[.slice An 3 cn, .slice none 0 0] := by rw [hW, hgx]; exact Blk.new2 _ _ _ _
  have hbW : Below w2.heap.size w2 W := by rw [hW]; exact (balloc _ _).alloc (by simp) _
  have hzW : W.heap.size = gx + 1 + 1 := by rw [hW, hgx]; simp
  have HF2 := Lib.hid ((sat_heapF w2).below hbW)
  have HBX := Lib.hid hBX
  have HBU := Lib.hid hBU
  have HB12 := Lib.hid hb12
  have HE2 := Lib.hid hE2
  have HNM := Lib.hid hNm'
  have HND := Lib.hid hNd
  have HZW := Lib.hid hzW
  have HGX := Lib.hid hgx
  have HBW := Lib.hid hbW
  rw [← hgx, ← hW]
  clear hE2 hNm' hNd hBX hBU hb12 hs12 hE hNm hN5 hF5 hle5 hb1 hb2 hO hB hAb hAe hbW hF1 hW hzW hgx
  go_loopw [11, 12, 27] (fun _ _ v27 wr => ∃ (m : Nat) (ve : Value), m ≤ ne ∧ v27 = .int .i64 m ∧ Blk wr (gx + 1) 41 #[.slice An 3 cn, ve] ∧ OwnEF (heapF w2) wr (gx + 1 + 1) ve (bs.take m) ∧ Wr [gx + 1] W wr) (fun _ _ v27 _ => ne - (intOf v27).toNat)
  case atStart => exact ⟨0, .slice none 0 0, Nat.zero_le _, rfl, HBU.out, by simpa using OwnEF.nil (heapF w2) W _, .refl _ _⟩
  case round =>
    obtain ⟨m, ve, hm, rfl, hB, hO, hwr⟩ := hrel
    have hzr := hwr.size
    have hbr : Below w2.heap.size w2 wr := HBW.out.trans (hwr.below (fun g hg => by simp at hg; have := HGX.out; omega) HBW.out.size)
    have hFr := (sat_heapF w2).below hbr
    have hX := hwr.blk HBX.out (by simp)
    have hgl : gx + 1 < wr.heap.size := by have := HZW.out; omega
    by_cases hmn : m < ne
    · have hmI : (m : Int) < (ne : Int) := by omega
      obtain ⟨e1, he1⟩ : ∃ e1, e1 + 1 = ne := ⟨ne - 1, by omega⟩
      obtain ⟨ii, hii⟩ : ∃ ii, ii + m + 1 = ne := ⟨ne - 1 - m, by omega⟩
      have hE1 : (ne : Int) - 1 = (e1 : Int) := by omega
      have hI1 : (e1 : Int) - (m : Int) = (ii : Int) := by omega
      have hiiN : (ii : Int) < (ne : Int) := by omega
      have he1N : (e1 : Int) < (ne : Int) := by omega
      have hil : ii < es.length := by rw [HES.out]; omega
      have hel : e1 < es.length := by rw [HES.out]; omega
      obtain ⟨ad, rfl, hh⟩ := HE2.out.2 (by omega)
      obtain ⟨htm, Ai, ci, hci, hri, hc0, hc1⟩ := hh ii hil
      obtain ⟨htl, _, _, _, _, hcl, _⟩ := hh e1 hel
      have hbk := HBK.out m ii e1 hmn hii he1 hil hel
      have hle := HLS.out ii e1 he1 hil hel
      have hst : bs.take (m + 1) = bs.take m ++ [⟨es[e1].time - es[ii].time, es[ii].ids⟩] := by rw [List.take_add_one, hbk]; rfl
      clear hh hbk
      generalize es[e1].time = tl at *
      generalize es[ii] = ev at *
      obtain ⟨tm, ids⟩ := ev
      dsimp only at htm hci hri hc0 hc1 hle hst
      obtain ⟨td, htd⟩ : ∃ td, tl - tm = td := ⟨_, rfl⟩
      have hwrap : IntKind.u64.wrap ((tl : Int) - (tm : Int)) = (td : Int) := by rw [wrap_u64 (by omega) (by omega)]; omega
      have htdb : td < 18446744073709551616 := by omega
      have hwe : IntKind.i64.wrap (e1 : Int) = (e1 : Int) := by simp [IntKind.wrap, IntKind.bits, IntKind.signed]; omega
      rw [htd] at hst
      obtain ⟨es1, hes1⟩ : ∃ es1, bs.take m = es1 := ⟨_, rfl⟩
      obtain ⟨es2, hes2⟩ : ∃ es2, bs.take (m + 1) = es2 := ⟨_, rfl⟩
      have hel1 : es1.length ≤ 1000 := by rw [← hes1, List.length_take]; omega
      rw [hes1, hes2] at hst
      rw [hes1] at hO
      have HES2 := Lib.hid hes2
      have HST := Lib.hid hst
      obtain ⟨Av, cv, rfl, hcv⟩ := hO.shape
      have hOl := hO.lt
      obtain ⟨L, hL⟩ : ∃ L, es1.length = L := ⟨_, rfl⟩
      obtain ⟨L2, hL2⟩ : ∃ L2, es2.length = L2 := ⟨_, rfl⟩
      rw [hL] at hO hB hOl hcv hel1
      have HL := Lib.hid hL
      have HL2 := Lib.hid hL2
      obtain ⟨ni, hni⟩ : ∃ ni, ids.length = ni := ⟨_, rfl⟩
      rw [hni] at hci hri hc1
      have HNI := Lib.hid hni
      have z0 := hFr.cell hc0
      have z1 : wr.cell? ⟨(ad.add (ii * 2)).block, (ad.add (ii * 2)).off + 1, none⟩ = some (.slice Ai ni ci) := hFr.cell hc1
      have z2 := hFr.cell hcl
      have HRI := Lib.hid hri
      have HO := Lib.hid hO
      have HB := Lib.hid hB
      have HWR := Lib.hid hwr
      have HFR := Lib.hid hFr
      have HX := Lib.hid hX
      obtain ⟨W1, hW1⟩ : ∃ W1, W1 = wr.alloc (.cells #[.int .u64 (tm : Nat), .slice Ai ni ci] 45) := ⟨_, rfl⟩
      obtain ⟨ge, hge⟩ : ∃ ge, ge = wr.heap.size := ⟨_, rfl⟩
      have hBE : Blk W1 ge 45 #[.int .u64 (tm : Nat), .slice Ai ni ci] := by rw [hW1, hge]; exact Blk.new _ _ _
      have hb1 : Below wr.heap.size wr W1 := by rw [hW1]; exact balloc _ _
      have hz1 : W1.heap.size = ge + 1 := by rw [hW1, hge]; simp
      have hgl1 : gx + 1 < W1.heap.size := by omega
      have hgx1 : gx < W1.heap.size := by omega
      have hge1 : ge < W1.heap.size := by omega
      have hOl2 : ∀ g, (Value.slice Av L cv).ownBlock = some g → gx + 1 + 1 ≤ g ∧ g < W1.heap.size := fun g hg => ⟨(hOl g hg).1, by have := (hOl g hg).2; omega⟩
      have HW1 := Lib.hid hW1
      have HBE := Lib.hid hBE
      have HBT := Lib.hid (HB.out.call hb1)
      have HOW := Lib.hid (HO.out.call hb1)
      have HWW := Lib.hid (HWR.out.call hb1)
      have HFW := Lib.hid (HFR.out.below hb1)
      obtain ⟨x0, x1, _, _⟩ := blkA hX
      have z0' := (hb1.cell (p := ad.add (ii * 2)) (HFR.out.clt hc0)).trans z0
      obtain ⟨j0, j1, _, _⟩ := blkA hBE
      obtain ⟨k0, k1, k2, k3⟩ := blkA HBT.out
      obtain ⟨y0, y1, _, _⟩ := blkA (HX.out.call hb1)
      have z2' := HFW.out.cell hcl
      clear hst hes1 hes2 hL hL2 hni hO hB hwr hFr hri hc0 hc1 hcl htd hle hX hBE hb1 hz1 hW1 he1 hii hbr z0'
      go_wp2_with fail
      rw [← HW1.out, ← hge]
      have HGE := Lib.hid hge
      clear hge
      go_region_law (first
        | (refine step_pushEF rfl (.tmp 39) (.tmp 53) (by rfl) (F := heapF w2) (B := gx + 1 + 1) (v := .slice Av L cv) (es := es1) (HOW.out.alloc _) (HFW.out.alloc _) (by rfl) ⟨td, ids⟩ htdb Ai ci (by rw [HNI.out]; exact hci) (by rw [HNI.out]; exact HRI.out) _ 1 (by rfl) (by rw [HNI.out]; exact Blk.new W1 _ _) (by rw [HL.out]; omega) (by simp; omega) ?_; intro v4 w4 hO4 hF4 hb4 hg4' hat4; rw [← HST.out] at hO4; obtain ⟨A4, c4, hv4, hc4⟩ := hO4.shape; rw [HL2.out] at hv4 hc4; subst hv4; have hg4 : (W1.alloc (.cells #[.int .u64 (td : Nat), .slice Ai ni ci] 45)).grownBy w4 _ := gb_src hg4' rfl rfl rfl rfl; have hBw := (HBT.out.alloc _).grown hg4 (fun e => by have := (hOl2 _ e.symm).1; omega); obtain ⟨k0, k1, k2, k3⟩ := blkA hBw))
      all_goals
        have hB5 := hBw.set_ 1 (.slice A4 L2 c4)
        have hat5 : ∀ g, (Value.slice A4 L2 c4).ownBlock = some g → g ≠ gx + 1 := fun g hg => by have := (hO4.lt g hg).1; omega
        have hO5 := hO4.setFar (a := ⟨gx + 1, 1, none⟩) (fun e => hat5 _ e rfl) (.slice A4 L2 c4)
        have hb24 : Below (gx + 1 + 1) W1 w4 := (by refine Below.trans ?_ hb4; exact bel_eqv ((Below.refl _ W1).alloc (by omega) _) rfl rfl rfl rfl)
        have hw5 := (HWW.out.bel (by rw [HZW.out]; exact hb24)).set (g := gx + 1) (by simp) 1 (.slice A4 L2 c4)
        rw [← HES2.out] at hO5
        go_wp2_with fail
        go_roundw
        case rel => exact ⟨m + 1, .slice A4 L2 c4, by omega, by go_num, hB5, hO5, hw5⟩
        case measure => simp [intOf]; omega
    · obtain rfl : m = ne := by omega
      have hdec : decide ((m : Int) < (m : Int)) = false := decide_eq_false (by omega)
      have hTK : bs.take m = bs := by rw [← HBL.out, List.take_length]
      rw [hTK] at hO
      obtain ⟨F3, A3, c3, e3, hc3, hE3, hF3, _⟩ := hO.freeze hFr w2 (by have := HGX.out; omega)
      rw [HBL.out] at e3 hc3 hE3
      subst e3
      have HU := Lib.hid hB
      have HX := Lib.hid hX
      have HE3 := Lib.hid (hE3.cle hF3.cle)
      have HE4 := Lib.hid (HE2.out.cle hFr.cle)
      have HNM4 := Lib.hid (HNM.out.heap hFr)
      have HND4 := Lib.hid (HND.out.cle hFr.cle)
      have HB4 := Lib.hid (bthen HB12.out hbr)
      obtain ⟨x0, x1, _, _⟩ := blkA HX.out
      obtain ⟨y0, y1, _, _⟩ := blkA HU.out
      have lx := HX.out.lt
      have ly := HU.out.lt
      clear hTK hO hE3 hF3 hB hX hwr hbr hFr hgl hzr
      go_wp2_with fail
      (try simp only [List.append_eq, List.cons_append, List.nil_append])
      go_region_held3 (fun w' => w'.cell? ⟨gx, 0, none⟩ = some (.slice An 3 cn) ∧ w'.cell? ⟨gx, 1, none⟩ = some (.slice Ae m ce) ∧ w'.cell? ⟨gx + 1, 0, none⟩ = some (.slice An 3 cn) ∧ w'.cell? ⟨gx + 1, 1, none⟩ = some (.slice A3 m c3)) (first | exact ⟨s0, s1, s2, s3⟩ | exact ⟨x0, x1, y0, y1⟩ | go_keep)
        (first
          | (have q6 := v6; go_at_call 18; refine (HAB.out (heapF v6) _ (by first | exact sat_heapF v6 | exact (sat_heapF v6).drew) An cn hcn (HNM4.out.cle ((sat_heapF wr).below hB6).cle) A3 c3 (HE3.out.cle ((sat_heapF wr).below hB6).cle) At ct hct HNT.out).mono ?_; rintro e v7 ⟨C7, rfl, hbx7, hc7⟩; have hb7 : Below v6.heap.size v6 v7 := (by first | exact hbx7 | exact bel_eqv0 hbx7); have hB7 : Below wr.heap.size wr v7 := bthen hB6 hb7; have s0 := (hB7.cell (p := ⟨gx, 0, none⟩) lx).trans x0; have s1 := (hB7.cell (p := ⟨gx, 1, none⟩) lx).trans x1; have s2 := (hB7.cell (p := ⟨gx + 1, 0, none⟩) ly).trans y0; have s3 := (hB7.cell (p := ⟨gx + 1, 1, none⟩) ly).trans y1)
          | (have q5 := v5; go_at_call 21; refine (HTN.out (heapF wr) _ (by first | exact (sat_heapF wr).below hB5 | exact ((sat_heapF wr).below hB5).drew) A5 c5 HND4.out).mono ?_; rintro e v6 ⟨At, ct, Ft, rfl, hct, hNt, hbx6, hFt, _⟩; rw [HTL.out] at hct hNt; rw [HTL.out]; have HNT := Lib.hid (hNt.cle hFt.cle); have hb6 : Below v5.heap.size v5 v6 := (by first | exact hbx6 | exact bel_eqv0 hbx6); have hB6 : Below wr.heap.size wr v6 := bthen hB5 hb6; have s0 := (hB6.cell (p := ⟨gx, 0, none⟩) lx).trans x0; have s1 := (hB6.cell (p := ⟨gx, 1, none⟩) lx).trans x1; have s2 := (hB6.cell (p := ⟨gx + 1, 0, none⟩) ly).trans y0; have s3 := (hB6.cell (p := ⟨gx + 1, 1, none⟩) ly).trans y1)
          | (go_at_call 18; refine (HAP.out (heapF wr) _ (by first | exact sat_heapF wr | exact (sat_heapF wr).drew) An cn hcn HNM4.out Ae ce HE4.out A5 c5 hc5 HND4.out).mono ?_; rintro e v5 ⟨C5, rfl, hbx5, hc5'⟩; have hb5 : Below wr.heap.size wr v5 := (by first | exact hbx5 | exact bel_eqv0 hbx5); have hB5 : Below wr.heap.size wr v5 := hb5; have s0 := (hB5.cell (p := ⟨gx, 0, none⟩) lx).trans x0; have s1 := (hB5.cell (p := ⟨gx, 1, none⟩) lx).trans x1; have s2 := (hB5.cell (p := ⟨gx + 1, 0, none⟩) ly).trans y0; have s3 := (hB5.cell (p := ⟨gx + 1, 1, none⟩) ly).trans y1))
      have hR1 : (m = 0 ∧ C5 = none) ∨ (0 < m ∧ ∃ g, C5 = some ⟨g, 0, none⟩ ∧ Blk v7 g 4 (rowV m V)) := by
        rcases hc5' with h | ⟨h0, g, e, _, hk⟩
        · exact .inl h
        · exact .inr ⟨h0, g, e, hk.call (bthen hb6 hb7)⟩
      have hg15 : ∀ g, C5 = some ⟨g, 0, none⟩ → 0 < m → g < v6.heap.size := fun g e h0 => by
        rcases hc5' with ⟨h, _⟩ | ⟨_, g', e', _, hk⟩
        · omega
        · rw [e] at e'; injection e' with e'; injection e' with e'; subst e'; exact (hk.call hb6).lt
      have HB7 := Lib.hid (bthen HB4.out hB7)
      have hw6 : w.heap.size ≤ v6.heap.size := (bthen HB4.out hB6).size
      clear hb5 hb6 hb7 hB5 hB6 hB7 hc5' s0 s1 s2 s3 x0 x1 y0 y1
      have hmm : ((m : Int) != (m : Int)) = false := by simp
      rcases hc7 with ⟨h0, rfl⟩ | ⟨h0, g7, rfl, hg7, hk7⟩
      · rcases hR1 with ⟨_, rfl⟩ | ⟨h1, _⟩
        · go_wp2_with fail
          go_at_call 22
          subst h0
          refine (revNil_w _).mono ?_
          rintro e v8 ⟨rfl, rfl⟩
          go_wp2_with fail
          go_at_call 19
          refine (equalV_w (n := 0) (r := V) (by omega) (BAt.zero _ _ _) (BAt.zero _ _ _)).mono ?_
          rintro e v9 ⟨rfl, hb9⟩
          go_wp2_with fail
          refine (awake15_w _).mono ?_
          rintro e v10 ⟨rfl, hb10⟩
          go_wp2_with fail
          go_ret
          exact ⟨rfl, bthen HB7.out (bthen hb9 hb10)⟩
        · omega
      · rcases hR1 with ⟨h1, _⟩ | ⟨_, g5, rfl, hk5⟩
        · omega
        · have h57 := hg15 g5 rfl h0
          have HRV := Lib.hid (revB_w h0 (by omega) hk7)
          have HK5 := Lib.hid hk5
          have hgw : w.heap.size ≤ g7 := Nat.le_trans hw6 hg7
          clear hk7 hk5 hg15
          go_wp2_with fail
          go_at_call 22
          refine HRV.out.mono ?_
          rintro e v8 ⟨rfl, hk8, hw8⟩
          have hk58 := hw8.blk HK5.out (by simp; omega)
          have HEQ := Lib.hid (equalV_w (n := m) (c := m) (d := m) (r := V) (by omega) (BAt.row hk58) ((BAt.row hk8).congr (fun j hj => by show V (m - 1 - (m - 1 - j)) = V j; rw [show m - 1 - (m - 1 - j) = j by omega])))
          have HB8 := Lib.hid (HB7.out.trans (hw8.below (fun g hg => by simp at hg; omega) HB7.out.size))
          clear hk8 hk58 hw8
          go_wp2_with fail
          go_at_call 19
          refine HEQ.out.mono ?_
          rintro e v9 ⟨rfl, hb9⟩
          go_wp2_with fail
          refine (awake15_w _).mono ?_
          rintro e v10 ⟨rfl, hb10⟩
          go_wp2_with fail
          go_ret
          exact ⟨rfl, bthen HB8.out (bthen hb9 hb10)⟩
end Go.Proofs.Ytdbbooibkiicnaa
