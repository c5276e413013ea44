/- The walk of the law TurnReach. -/
import Derived.Test.YtedeppgipciblaaTurnMakes
set_option linter.unusedVariables false
set_option linter.unusedSimpArgs false
/-! Rows of words, one appended to another. -/
namespace Go.Proofs.Ytedeppgipciblaa
open Go.RowKit
/-- The cells of rows of words. -/
def RowsW (F : Fz) (xs : List Value) (gs : List (List (BitVec 64))) : Prop := xs.length = gs.length ∧ ∀ i (h : i < gs.length), ∃ Ai ci, xs[i]? = some (.slice Ai gs[i].length ci) ∧ Rd F 1 Ai gs[i].length (gs[i].map u)
theorem RowsW.nil (F : Fz) : RowsW F [] [] := ⟨rfl, fun i h => by simp at h⟩
theorem RowsW.snoc {F F' : Fz} {xs : List Value} {gs : List (List (BitVec 64))} (h : RowsW F xs gs) (hle : CLe F F') {g : List (BitVec 64)} {A : Option Addr} {c : Nat} (hx : Rd F' 1 A g.length (g.map u)) : RowsW F' (xs ++ [.slice A g.length c]) (gs ++ [g]) := by
  obtain ⟨h1, h2⟩ := h
  refine ⟨by simp [h1], fun i hi => ?_⟩
  by_cases h3 : i < gs.length
  · obtain ⟨Ai, ci, h4, h5⟩ := h2 i h3
    refine ⟨Ai, ci, ?_, ?_⟩
    · rw [List.getElem?_append_left (by omega), List.getElem_append_left h3]; exact h4
    · rw [List.getElem_append_left h3]; exact Rd.cle h5 hle
  · simp at hi
    obtain rfl : i = gs.length := by omega
    refine ⟨A, c, ?_, ?_⟩
    · rw [List.getElem?_append_right (by omega), List.getElem_append_right (Nat.le_refl _)]; simp [h1]
    · rw [List.getElem_append_right (Nat.le_refl _)]; simpa using hx
theorem RowsW.cle {F F' : Fz} {xs : List Value} {gs : List (List (BitVec 64))} (h : RowsW F xs gs) (hle : CLe F F') : RowsW F' xs gs := ⟨h.1, fun i hi => let ⟨Ai, ci, a, b⟩ := h.2 i hi; ⟨Ai, ci, a, Rd.cle b hle⟩⟩
theorem RowsW.rdR {F : Fz} {xs : List Value} {gs : List (List (BitVec 64))} (h : RowsW F xs gs) {B : Option Addr} {n : Nat} (hn : gs.length = n) (hr : Rd F 1 B n xs) : RdR F B n gs := by
  refine ⟨hn.symm ▸ rfl, fun i hi => ?_⟩
  have hi' : i < gs.length := by omega
  obtain ⟨Ai, ci, h4, h5⟩ := h.2 i hi'
  obtain ⟨ad, v, rfl, hv, hc⟩ := hr.at1 (show i < n by omega)
  rw [h4] at hv
  injection hv with hv
  subst hv
  refine ⟨ad, Ai, _, ci, rfl, hc, ?_⟩
  rw [List.getD, List.getElem?_eq_getElem hi']
  exact h5
/-- What tests hold at the points told from the end on. -/
def backL (gs : List (List (BitVec 64))) (O : List Nat) (n i : Nat) : List Nat := (List.range O.length).filter fun k => bitAt (gs.getD (n - 1 - i) []) (O.getD k 0)
theorem back_has (gs : List (List (BitVec 64))) (O : List Nat) (n i q : Nat) (hq : q < O.length) : (backL gs O n i).contains q = bitAt (gs.getD (n - 1 - i) []) (O[q]) := by
  unfold backL
  have e : O.getD q 0 = O[q] := by rw [List.getD, List.getElem?_eq_getElem hq]; rfl
  rw [Bool.eq_iff_iff, List.contains_iff_mem, List.mem_filter, List.mem_range, e]
  simp [hq]
/-- THE LAW, without a program: tables of what is turned, over points told from the end on. -/
theorem turn_table {r : List Nd} {t t' : Tr} (ht : treeS r = some t) (hr : regS t.root.kind = true) (he : EqT t' (turnT t)) (n : Nat) (gs ws : List (List (BitVec 64))) (hws : ∀ i, i < n → ∀ q, bitAt (ws.getD i []) q = (backL gs (ordL r) n i).contains q) :
    TurnedM n (reachT n (valS ws) t' 0) (reachT n (valS gs) t 0) := by
  rw [shape_reach n (valS ws) 0 (eq_shape he)]
  refine reach_turn n (valS gs) (valS ws) t 0 0 (regV_of (tree_valid ht) hr) ?_
  intro i hi q hq
  have ho := (turn_yes ht hr).2
  rw [Nat.zero_add]
  unfold valS
  rw [hws (n - 1 - i) (by omega) q]
  have hl : q < (ordL r).length := by rw [ho, length_ord]; exact hq
  rw [back_has gs (ordL r) n (n - 1 - i) q hl, show n - 1 - (n - 1 - i) = i by omega]
  congr 1
  simp only [ho]
theorem zs_get2 {xs : List Nat} {k x : Nat} (h : xs[k]? = some x) : ((zs xs).map encI)[k]? = some (encI (x : Nat)) := by unfold zs; rw [List.getElem?_map, List.getElem?_map, h]; rfl
theorem row_at2 {F : Fz} {A : Option Addr} {n : Nat} {xs : List Nat} (h : Rd F 1 A n ((zs xs).map encI)) {k x : Nat} (hk : k < n) (hx : xs[k]? = some x) : ∃ ad, A = some ad ∧ F.cell (ad.add k) = some (.int .i64 (x : Int)) := by
  obtain ⟨ad, v, e, hv, hc⟩ := h.at1 hk
  rw [zs_get2 hx] at hv
  injection hv with hv
  subst hv
  exact ⟨ad, e, hc⟩
set_option maxRecDepth 100000 in
set_option maxHeartbeats 4000000 in
theorem turnReach_c {F : Fz} {w : World} (hF : Sat F w) (ns : List Nat) (hns : ∀ k ∈ ns, k < 65536) (B : Option Addr) (m d : Nat) (hr : Rd F 1 B m (ns.map encW)) (fs : List (BitVec 64)) (A : Option Addr) (n c : Nat) (hf : Rd F 1 A n (fs.map u)) :
    Calls Try.prog 5 #[.slice B m d, .slice A n c] w fun e w' => e = .returned (.bool true) ∧ Below w.heap.size w w' := by
  have hRg := Lib.hid (reg5_w hF ns hns B m d hr false (regT false ns) rfl)
  have hrn0 := (make_size false ns).2
  obtain ⟨t, ht, hrk⟩ := ok_regS (make_ok false ns hns).2
  rw [← Tr.length_flat (regT false ns) 0] at hrn0
  obtain ⟨r, hre⟩ : ∃ r, (regT false ns).flat 0 = r := ⟨_, rfl⟩
  rw [hre] at hRg hrn0 ht
  obtain ⟨gl, hgl⟩ : ∃ gl, fs.take 9 = gl := ⟨_, rfl⟩
  obtain ⟨k, hk⟩ : ∃ k, gl.length = k := ⟨_, rfl⟩
  have hk9 : k ≤ 9 := by rw [← hk, ← hgl]; exact List.length_take_le _ _
  have HPT := Lib.hid (fun (X : World) (h : Sat F X) => points_w h fs A n c hf gl hgl k hk)
  obtain ⟨gs, hgs⟩ : ∃ gs, (gl.map fun x => [x]) = gs := ⟨_, rfl⟩
  rw [hgs] at HPT
  have hgk : gs.length = k := by rw [← hgs, List.length_map, hk]
  obtain ⟨t', ht', he, hr'⟩ := turn_tree ht hrk
  have hreg := reg_of ht hrk
  have hreg' := reg_of ht' hr'
  have htab := fun ws h => turn_table ht hrk he k gs ws h
  obtain ⟨nr, hnr⟩ : ∃ nr, r.length = nr := ⟨_, rfl⟩
  have HNR := Lib.hid hnr
  have hrn : r.length ≤ 1000 := by omega
  have htn : (turnL r).length ≤ 1000 := Nat.le_trans (turnL_len r) hrn
  obtain ⟨tl, hte⟩ : ∃ tl, turnL r = tl := ⟨_, rfl⟩
  rw [hte] at htn ht' hreg'
  obtain ⟨nt, hnt⟩ : ∃ nt, tl.length = nt := ⟨_, rfl⟩
  have HNT := Lib.hid hnt
  obtain ⟨O, hO⟩ : ∃ O, ordL r = O := ⟨_, rfl⟩
  rw [hO] at htab
  obtain ⟨N, hN⟩ : ∃ N, O.length = N := ⟨_, rfl⟩
  have hNb : N ≤ 1000 := by rw [← hN, ← hO]; have := ordL_len r; rw [length_zs] at this; omega
  have hOb : ∀ x ∈ O, x ≤ 1000 := fun x hx => by
    rw [← hO, (turn_yes ht hrk).2] at hx
    have h1 : ∀ (t : Tr) (k : Nat), ∀ x ∈ ordT t k, x < k + testsT t := by
      intro t
      induction t with
      | leaf h => intro k x hx; simp [ordT] at hx
      | un h a ih =>
        intro k x hx
        by_cases h1 : h.kind = 19
        · simp [ordT, h1] at hx; simp [testsT, h1]; omega
        · simp only [ordT, h1, if_false] at hx; have := ih k x hx; simp [testsT, h1]; omega
      | bin h a b iha ihb =>
        intro k x hx
        have hx2 : x ∈ ordT a k ∨ x ∈ ordT b (k + testsT a) := by
          by_cases h1 : h.kind = 21
          · simp only [ordT, h1, if_true, List.mem_append] at hx; exact hx.symm
          · simp only [ordT, h1, if_false, List.mem_append] at hx; exact hx
        simp only [testsT]
        rcases hx2 with h2 | h2
        · have := iha k x h2; omega
        · have := ihb _ x h2; omega
    have h2 := h1 t 0 x hx
    have h3 := testsT_le t
    have h4 := tree_len ht
    omega
  have HN := Lib.hid hN
  have HZN : Hid ((zs O).length = N) := Lib.hid (by rw [length_zs, hN])
  have HOL := Lib.hid hO
  have HOB := Lib.hid hOb
  have HTE := Lib.hid hte
  have HT := Lib.hid ht
  have HT' := Lib.hid ht'
  have HRK := Lib.hid hrk
  have HRK' := Lib.hid hr'
  have HRG := Lib.hid hreg
  have HRG' := Lib.hid hreg'
  have HTAB := Lib.hid htab
  have HRN := Lib.hid hrn
  have HTN := Lib.hid htn
  have HGK := Lib.hid hgk
  have hnrb : nr ≤ 1000 := by omega
  have hntb : nt ≤ 1000 := by omega
  clear hre hr hns hnr hrn0 ht hrk ht' hr' he hreg hreg' htab hgl hk hgs hgk hte hnt hO hN hOb hrn htn hf
  go_enter Try.func5, Try.ntmps5
  go_wp2_with fail
  go_at_call 10
  refine hRg.out.mono ?_
  rintro e W0 ⟨Ar, cr, F1, rfl, hcr, hrN1, hbW0, hF1, hle1⟩
  rw [HNR.out] at hrN1 hcr
  rw [HNR.out]
  have hOr := tOrder_w hF1 r HRN.out Ar nr cr hrN1
  rw [HOL.out] at hOr
  have HOR := Lib.hid hOr
  clear hOr
  go_wp2_with fail
  go_at_call 15
  refine HOR.out.mono ?_
  rintro e W1 ⟨Ao, co, rfl, _, ro, b1⟩
  rw [HZN.out] at ro
  rw [HZN.out]
  have q1 := bthen hbW0 b1
  go_wp2_with fail
  go_at_call 22
  refine (HPT.out _ (hF.below q1)).mono ?_
  rintro e W ⟨P, dk, rfl, hdk, hPn, hgR, b2⟩
  have q2 := bthen q1 b2
  have hrN := (hrN1.cle hF1.cle).cle ((cle_below b1).trans (cle_below b2))
  have roW := ro.cle (cle_below b2)
  have HRN2 := Lib.hid hrN
  have HGR := Lib.hid hgR
  clear hrN1 hF1 hle1 hrN hPn hgR b1 b2 ro hbW0 q1
  go_wp2_with fail
  have hkI9 : (k : Int) ≤ 9 := by omega
  go_loopw [9, 10, 11, 12, 13, 27] (fun v9 _ _ _ _ v wr => ∃ (i : Nat) (G : Fz) (xs : List Value) (ws : List (List (BitVec 64))) (A9 : Option Addr) (c9 : Nat), i ≤ k ∧ v = .int .i64 i ∧ v9 = .slice A9 i c9 ∧ i ≤ c9 ∧ Own G wr W.heap.size 37 1 (.slice A9 i c9) i xs ∧ RowsW G xs ws ∧ Hid (ws.length = i) ∧ Hid (∀ x, x < i → (ws.getD x []).length ≤ 64 ∧ ∀ q, bitAt (ws.getD x []) q = (backL gs O k x).contains q) ∧ Sat G wr ∧ Fle W (heapF W) G ∧ Below W.heap.size W wr) (fun _ _ _ _ _ v _ => k - (intOf v).toNat)
  case atStart => exact ⟨0, heapF W, [], [], none, 0, Nat.zero_le _, rfl, rfl, Nat.le_refl _, Own.nil _ _ _ _ _, RowsW.nil _, Lib.hid rfl, Lib.hid (fun x h => by omega), sat_heapF W, Fle.refl _ _, Below.refl _ _⟩
  case round =>
    obtain ⟨i, G, xs, ws, A9, c9, hi, rfl, rfl, hc9, hO, hR, HWL, HWS, hG, hle, hbl⟩ := hrel
    obtain ⟨V, hV⟩ : ∃ V, V = wr := ⟨_, rfl⟩
    subst hV
    by_cases hik : i < k
    · have hiI : (i : Int) < (k : Int) := by omega
      have hsb : (k : Int) - 1 - (i : Int) = ((k - 1 - i : Nat) : Int) := by omega
      have hjk : k - 1 - i < k := by omega
      obtain ⟨j, hj⟩ : ∃ j, k - 1 - i = j := ⟨_, rfl⟩
      rw [hj] at hsb hjk
      have hjI : (j : Int) < (k : Int) := by omega
      obtain ⟨ap, Ag, ng, cg, rfl, hgc, hgr⟩ := HGR.out.2 j (by rw [HGK.out]; exact hjk)
      have HBK : Hid (backL gs O k i = (List.range N).filter fun q => bitAt (gs.getD j []) (O.getD q 0)) := Lib.hid (by unfold backL; rw [HN.out, hj])
      have HSB := Lib.hid hsb
      have hzl := hbl.size
      clear hsb hj
      go_wp2_with fail
      go_loopw [11, 12, 13, 32] (fun v11 _ _ v wr => ∃ (q : Nat) (ls : List Nat) (A3 : Option Addr) (n3 c3 : Nat), q ≤ N ∧ v = .int .i64 q ∧ v11 = .slice A3 n3 c3 ∧ n3 ≤ q ∧ Hid (n3 = (zs ls).length) ∧ Hid (ls = (List.range q).filter fun q => bitAt (gs.getD j []) (O.getD q 0)) ∧ Own G wr V.heap.size 3 1 (.slice A3 n3 c3) n3 ((zs ls).map encI) ∧ Below V.heap.size V wr) (fun _ _ _ v _ => N - (intOf v).toNat)
      case atStart => exact ⟨0, [], none, 0, 0, Nat.zero_le _, rfl, rfl, Nat.le_refl _, Lib.hid rfl, Lib.hid rfl, Own.nil _ _ _ _ _, Below.refl _ _⟩
      case round =>
        obtain ⟨q, ls, A3, n3, c3, hq, rfl, rfl, hn3, H3, HL, hO3, hbx⟩ := hrel
        have hblx := bthen hbl hbx
        have hWx := (sat_heapF W).below hblx
        by_cases hqN : q < N
        · have hqI : (q : Int) < (N : Int) := by omega
          have hqo : q < O.length := by rw [HN.out]; exact hqN
          obtain ⟨ao, rfl, hoc⟩ := row_at2 roW hqN (List.getElem?_eq_getElem hqo)
          have hxb := HOB.out _ (List.getElem_mem hqo)
          have hstep : (List.range (q + 1)).filter (fun q => bitAt (gs.getD j []) (O.getD q 0)) = ls ++ if bitAt (gs.getD j []) O[q] = true then [q] else [] := by
            rw [List.range_succ, List.filter_append, ← HL.out, List.filter_cons, List.filter_nil, List.getD, List.getD, List.getElem?_eq_getElem hqo]
            rfl
          generalize O[q] = x at *
          have z1 := hWx.cell hoc
          have z2 := hWx.cell hgc
          have hH := has_any hWx (gs.getD j []) Ag ng cg hgr x (by omega)
          have hsb := HSB.out
          cases hbx2 : bitAt (gs.getD j []) x
          · rw [hbx2] at hH hstep
            have HH := Lib.hid hH
            have HST : Hid (ls = (List.range (q + 1)).filter (fun q => bitAt (gs.getD j []) (O.getD q 0))) := Lib.hid (by rw [hstep]; simp)
            clear hH hstep hbx2 hoc hgc
            go_wp2_with (go_at_call 23; refine HH.out.mono ?_; rintro e w4 ⟨rfl, rfl⟩)
            go_roundw
            case rel => exact ⟨q + 1, ls, A3, n3, c3, by omega, by go_num, rfl, by omega, H3, HST, hO3, hbx⟩
            case measure => simp [intOf]; omega
          · rw [hbx2] at hH hstep
            have HH := Lib.hid hH
            have HST : Hid (ls ++ [q] = (List.range (q + 1)).filter (fun q => bitAt (gs.getD j []) (O.getD q 0))) := Lib.hid (by rw [hstep]; simp)
            have HZS : Hid (zs ls ++ [(q : Int)] = zs (ls ++ [q])) := Lib.hid (by rw [zs_snoc])
            have hGx := hG.below hbx
            have hzx := hbx.size
            clear hH hstep hbx2 hoc hgc
            go_wp2_with (first
              | (go_at_call 23; refine HH.out.mono ?_; rintro e w4 ⟨rfl, rfl⟩)
              | (at_builtin; refine wpList_pushI rfl (.tmp 46) (.tmp 48) rfl (hO3.alloc _) (hGx.alloc _) (by rfl) wr.heap.size 1 (q : Int) (by rfl) (Blk.new _ _ _) (by omega) (by simp; omega) ?_; intro v5 w5 hO5 hF5 hb5 hg5 hat5))
            rw [HZS.out] at hO5
            obtain ⟨A5, c5, rfl, hc5⟩ := hO5.shape
            go_roundw
            case rel => exact ⟨q + 1, ls ++ [q], A5, n3 + 1, c5, by omega, by go_num, rfl, by omega, Lib.hid (by rw [← HZS.out, List.length_append, ← H3.out]; rfl), HST, hO5, (hbx.alloc hzx _).trans hb5⟩
            case measure => simp [intOf]; omega
        · obtain rfl : q = N := by omega
          have hdec : decide ((q : Int) < (q : Int)) = false := decide_eq_false (by omega)
          rw [← HBK.out] at HL
          obtain ⟨A4, c4, e4, _, hrd⟩ := hO3.rdH
          injection e4 with e41 _ e43
          subst e41 e43
          have hGx := hG.below hbx
          have hmem : ∀ x ∈ ls, x ≤ 4095 := fun x hx => by
            rw [HL.out] at hx
            unfold backL at hx
            have := (List.mem_filter.1 hx).1
            rw [List.mem_range, HN.out] at this
            omega
          have hOf := of_w hGx (sat_heapF wr) ls hmem A3 n3 c3 hrd (by omega)
          have HOF := Lib.hid hOf
          clear hOf hmem hrd
          have HLB := Lib.hid HL.out
          go_wp2_with (first
            | (go_at_call 24; refine HOF.out.mono ?_; rintro e w6 ⟨g6, A6, c6, G6, rfl, hc6, hr6, hb6, hG6, hle6, hg64, hgq⟩; have hO6 := ((hO.call hbx).le hle6).call hb6; have hR6 := hR.snoc (c := c6) hle6.cle hr6)
            | (at_builtin; refine wpList_push rfl (.tmp 51) (.tmp 54) _ rfl 37 (.slice none 0 0) 1 24 Try.underlying38 (by kernel_rfl) rfl (by omega) (hO6.alloc _) (hG6.alloc _) (by rfl) w6.heap.size 1 #[.slice A6 g6.length c6] (by rfl) (Blk.new _ _ _) rfl (by intro u hu; simp at hu; subst hu; rfl) (by unfold maxLen; omega) (by omega) (by have := hblx.size; have := hb6.size; simp; omega) ?_; intro v7 w7 hO7 hF7 hb7 hg7 hat7))
          obtain ⟨A7, c7, rfl, hc7⟩ := hO7.shape
          have hWN : Hid (∀ x, x < i + 1 → ((ws ++ [g6]).getD x []).length ≤ 64 ∧ ∀ q, bitAt ((ws ++ [g6]).getD x []) q = (backL gs O k x).contains q) := Lib.hid (fun x hx => by
            have hwl := HWL.out
            by_cases hxi : x < i
            · rw [List.getD, List.getElem?_append_left (by omega)]
              exact HWS.out x hxi
            · obtain rfl : x = i := by omega
              rw [List.getD, List.getElem?_append_right (by omega), hwl, Nat.sub_self]
              refine ⟨hg64, fun q => ?_⟩
              rw [← HLB.out]
              exact hgq q)
          have hb67 := ((bthen hblx hb6).alloc (by have := hblx.size; have := hb6.size; omega) (.cells #[.slice A6 g6.length c6] 37)).trans hb7
          go_roundw
          case rel => exact ⟨i + 1, G6, _, ws ++ [g6], A7, c7, by omega, by go_num, rfl, hc7, hO7, hR6, Lib.hid (by rw [List.length_append, HWL.out]; rfl), hWN, hF7, hle.trans hle6 (by have := hblx.size; omega), hb67⟩
          case measure => simp [intOf]; omega
    · obtain rfl : i = k := by omega
      have hdec : decide ((i : Int) < (i : Int)) = false := decide_eq_false (by omega)
      obtain ⟨F2, B2, d2, e2, hd2, hrd2, hS2, hle2, _⟩ := hO.freeze hG W (Nat.le_refl _)
      injection e2 with e21 _ e23
      subst e21 e23
      have hRW := (RowsW.rdR (hR.cle hle2.cle) HWL.out hrd2).cle hS2.cle
      have HP1 := Lib.hid (pReachTab ((sat_heapF W).below hbl) r HRN.out Ar nr cr HRN2.out P i dk (by omega) gs HGR.out)
      have hTU := fun (X : World) (h : Sat (heapF W) X) => turn_w r.length r (Nat.le_refl _) HRN.out (heapF W) X h Ar nr cr hcr HRN2.out
      rw [HTE.out] at hTU
      have HTU := Lib.hid hTU
      have HP2 := Lib.hid (fun (X : World) (hX : Sat (heapF V) X) (At : Option Addr) (ct : Nat) (hN : NodesF (heapF X) At nt tl) => pReachTab (sat_heapF X) tl HTN.out At nt ct hN A9 i c9 (by omega) ws (hRW.cle hX.cle))
      have hTB := HTAB.out ws (fun x hx q => (HWS.out x hx).2 q)
      have q3 := bthen q2 hbl
      have HWV := Lib.hid ((sat_heapF W).below hbl)
      clear hTU hRW hO hR hrd2 hS2 hle2 hle hG HWS
      go_wp2_with fail
      go_at_call 25
      refine HP1.out.mono ?_
      rintro e W2 ⟨A2, c2, rfl, hb2, hT2⟩
      rw [if_pos HRG.out]
      have hTm := hT2 t HT.out HRK.out
      go_wp2_with fail
      go_at_call 13
      refine (HTU.out _ (HWV.out.below hb2)).mono ?_
      rintro e W3 ⟨A3, c3, F3, rfl, _, hN3, hb3, hF3, _⟩
      rw [HNT.out] at hN3
      rw [HNT.out]
      go_wp2_with fail
      go_at_call 25
      refine (HP2.out W3 (((sat_heapF V).below hb2).below hb3) A3 c3 (hN3.cle hF3.cle)).mono ?_
      rintro e W4 ⟨A4, c4, rfl, hb4, hT4⟩
      rw [if_pos HRG'.out]
      have hTb := hT4 t' HT'.out HRK'.out
      generalize reachT i (valS gs) t 0 = Mm at *
      generalize reachT i (valS ws) t' 0 = Mb at *
      have hTm4 : 0 < i → ∃ g, A2 = some ⟨g, 0, none⟩ ∧ SqF (heapF W4) g i Mm := fun h => let ⟨g, a, _, _, dd⟩ := hTm h; ⟨g, a, (dd.call hb3).call hb4⟩
      have hTb4 : 0 < i → ∃ g, A4 = some ⟨g, 0, none⟩ ∧ SqF (heapF W4) g i Mb := fun h => let ⟨g, a, _, _, dd⟩ := hTb h; ⟨g, a, dd⟩
      have HTM := Lib.hid hTm4
      have HTB4 := Lib.hid hTb4
      have HTB := Lib.hid hTB
      have q4 := bthen (bthen (bthen q3 hb2) hb3) hb4
      clear hT2 hTm hT4 hTb hTm4 hTb4 hTB hN3 hF3
      go_wp2_with fail
      go_loopw [16, 17, 75] (fun _ _ v wr => ∃ a q : Nat, a ≤ i ∧ v = .int .i64 a ∧ wr = W4.drewN q) (fun _ _ v _ => i - (intOf v).toNat)
      case atStart => exact ⟨0, 0, Nat.zero_le _, rfl, rfl⟩
      case round =>
        obtain ⟨a, q, ha, rfl, rfl⟩ := hrel
        by_cases hai : a < i
        · have haI : (a : Int) < (i : Int) := by omega
          obtain ⟨gm, eA2, hSm⟩ := HTM.out (by omega)
          obtain ⟨gb, eA4, hSb⟩ := HTB4.out (by omega)
          subst eA2 eA4
          obtain ⟨a', ha'⟩ : ∃ a', i - 1 - a = a' := ⟨_, rfl⟩
          have hal : a' < i := by omega
          have hs1 : (i : Int) - 1 - (a : Int) = (a' : Int) := by omega
          have haI' : (a' : Int) < (i : Int) := by omega
          have m1 := hSm.slot hal
          have n1 := hSb.slot hai
          have HA' := Lib.hid ha'
          clear ha'
          go_wp2_with fail
          go_loopw [17, 98] (fun _ v wr => ∃ b q2 : Nat, b ≤ i ∧ v = .int .i64 b ∧ wr = W4.drewN q2) (fun _ v _ => i - (intOf v).toNat)
          case atStart => exact ⟨0, q, Nat.zero_le _, rfl, rfl⟩
          case round =>
            obtain ⟨b, q2, hb, rfl, rfl⟩ := hrel
            by_cases hbi : b < i
            · have hbI : (b : Int) < (i : Int) := by omega
              obtain ⟨b', hb'⟩ : ∃ b', i - 1 - b = b' := ⟨_, rfl⟩
              have hbl' : b' < i := by omega
              have hs2 : (i : Int) - 1 - (b : Int) = (b' : Int) := by omega
              have hbI' : (b' : Int) < (i : Int) := by omega
              have heq := HTB.out a b hai hbi
              rw [hb', HA'.out] at heq
              have m2 := hSm.slot hbl'
              have m3 := hSm.val hbl' hal
              have n2 := hSb.val hai hbi
              rw [heq] at n2
              clear hb' heq
              cases hm : Mm b' a'
              · rw [hm] at m3 n2
                clear hm
                go_wp2_with fail
                go_quiet (fail)
                go_wp2_with fail
                go_roundw
                case rel => exact ⟨b + 1, _, by omega, by go_num, by first | rfl | exact (World.drewN_drewN _ _ _)⟩
                case measure => simp [intOf]; omega
              · rw [hm] at m3 n2
                clear hm
                go_wp2_with fail
                go_quiet (fail)
                go_wp2_with fail
                go_roundw
                case rel => exact ⟨b + 1, _, by omega, by go_num, by first | rfl | exact (World.drewN_drewN _ _ _)⟩
                case measure => simp [intOf]; omega
            · obtain rfl : b = i := by omega
              have hdec2 : decide ((b : Int) < (b : Int)) = false := decide_eq_false (by omega)
              go_wp2_with fail
              go_roundw
              case rel => exact ⟨a + 1, q2, by omega, by go_num, rfl⟩
              case measure => simp [intOf]; omega
        · obtain rfl : a = i := by omega
          have hdec2 : decide ((a : Int) < (a : Int)) = false := decide_eq_false (by omega)
          go_wp2_with (go_at_call 9; refine (awake20_w _).mono ?_; rintro e w6 ⟨rfl, hz⟩)
          go_ret
          exact ⟨rfl, bthen (below_drewN q4 q) hz⟩
end Go.Proofs.Ytedeppgipciblaa
