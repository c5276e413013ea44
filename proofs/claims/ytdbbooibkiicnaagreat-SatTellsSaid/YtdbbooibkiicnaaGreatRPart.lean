/- The walk of the reference's May. -/
import Derived.Test.YtdbbooibkiicnaaGreatMay
import Derived.Test.YtdbbooibkiicnaaGreatTreeP
import Derived.Test.YtdbbooibkiicnaaGreatApp
import Derived.Deep.DeepCutAuto
import Derived.Deep.RegionWith
import Derived.Test.YtdbbooibkiicnaaGreatPart
import Derived.Test.YtdbbooibkiicnaaGreatNodes2
set_option linter.unusedVariables false
set_option linter.unusedSimpArgs false
/-! The walk of the reference's May. -/
namespace Go.Proofs.YtdbbooibkiicnaaGreat
open Go.RowKit
attribute [local go_sem ↓] span_eq

theorem rarity_b (k x : Int) (hx : arityS k = x) (w : World) : Calls Tryz.prog 105 #[.int .i64 k] w fun e w' => e = .returned (.int .i64 x) ∧ w = w' := hx ▸ rarity_w k w
theorem rtimed_b (k : Int) (b : Bool) (hb : timedS k = b) (w : World) : Calls Tryz.prog 107 #[.int .i64 k] w fun e w' => e = .returned (.bool b) ∧ w = w' := hb ▸ rtimed_w k w
theorem rName_b (s : ByteArray) (b : Bool) (hb : nameS s.data.toList = b) (w : World) : Calls Tryz.prog 106 #[.string s] w fun e w' => e = .returned (.bool b) ∧ w = w' := hb ▸ rName_w s w
theorem Rd.next {w w' : World} {size n : Nat} {A : Option Addr} {xs : List Value} (h : Rd (heapF w) size A n xs) (hb : Below w.heap.size w w') : Rd (heapF w') size A n xs := h.heap ((sat_heapF w).below hb)
theorem length_le_total : ∀ st : List Tr, st.length ≤ total st
  | [] => Nat.le_refl _
  | t :: st => by have := length_le_total st; have := t.size_pos; rw [total_cons, List.length_cons]; omega
theorem fold_fields : ∀ {l : List Nd} {st st' : List Tr}, l.foldlM pushS st = some st' → ∀ n ∈ l, fieldsS n = true
  | [], _, _, _, n, hn => by cases hn
  | m :: l, st, st', h, n, hn => by
    rw [List.foldlM_cons] at h
    cases hp : pushS st m with
    | none => rw [hp] at h; cases h
    | some st0 =>
      rw [hp] at h
      rcases List.mem_cons.1 hn with rfl | hn
      · exact (pushS_some hp).1
      · exact fold_fields (l := l) h n hn
theorem kind_pos {n : Nd} (h : fieldsS n = true) : 1 ≤ n.kind := by
  have h1 := fields_kids h
  have h2 : 0 ≤ arityS n.kind := by omega
  unfold arityS at h2
  split at h2
  · omega
  · split at h2
    · omega
    · split at h2 <;> omega
theorem fits_eq {k kd : Int} (h : 1 ≤ kd) : fitsS k kd = (regS kd == wantsS k) := by
  unfold fitsS formS regS
  by_cases h1 : 18 ≤ kd
  · have h2 : ¬ (1 ≤ kd ∧ kd ≤ 17) := by omega
    cases wantsS k <;> simp [h1, h2]
  · have h2 : 1 ≤ kd ∧ kd ≤ 17 := by omega
    cases wantsS k <;> simp [h1, h2]
/-- What the stack tells of the kid j. -/
theorem okK_at {l : List Nd} {k : Nat} {st : List Tr} {n : Nd} {j D : Nat} (hk : k ≤ l.length) (hst : parseS (l.take k) = some st) (hj : j < n.kids.length) (hD : st.length = D + n.kids.length) :
    ∃ T : Nat, ∃ h : T < l.length, T < k ∧ (opens st)[D + j]? = some (T : Int) ∧ 1 ≤ l[T].kind ∧ (okK n st j ↔ n.kids[j] = (T : Int) ∧ regS l[T].kind = wantsS n.kind) := by
  have hi : n.kids.length - 1 - j < st.length := by omega
  have hg := opens_get st _ hi
  rw [show st.length - 1 - (n.kids.length - 1 - j) = D + j by omega] at hg
  obtain ⟨t, st', e⟩ : ∃ t st', st.drop (n.kids.length - 1 - j) = t :: st' := by
    cases hd : st.drop (n.kids.length - 1 - j) with
    | nil => have := congrArg List.length hd; simp at this; omega
    | cons t st' => exact ⟨t, st', rfl⟩
  obtain ⟨T, hT, hTk, hTt, hkind, _⟩ := top_of hk hst (show st = st.take (n.kids.length - 1 - j) ++ t :: st' by rw [← e, List.take_append_drop])
  have hget : st[n.kids.length - 1 - j]? = some t := by
    have h0 : (st.drop (n.kids.length - 1 - j))[0]? = some t := by rw [e]; rfl
    rw [List.getElem?_drop] at h0
    exact h0
  refine ⟨T, hT, hTk, ?_, ?_, ?_⟩
  · rw [hg, e, ← hTt]
    congr 1
    omega
  · refine kind_pos (fold_fields hst l[T] ?_)
    rw [List.mem_take_iff_getElem]
    exact ⟨T, by omega, rfl⟩
  · unfold okK
    rw [e, ← hTt, hget, List.getElem?_eq_getElem hj, hkind]
    constructor
    · rintro ⟨h1, h2⟩
      injection h1 with h1
      exact ⟨by rw [h1]; omega, h2 t rfl⟩
    · rintro ⟨h1, h2⟩
      refine ⟨by rw [h1]; congr 1; omega, fun t' h => ?_⟩
      injection h with h
      rw [← h]
      exact h2
set_option maxRecDepth 100000 in
set_option maxHeartbeats 4000000 in
theorem rmay_w {F : Fz} {w : World} (hF : Sat F w) (l : List Nd) (hn : l.length ≤ 1000) (A : Option Addr) (n c : Nat) (hl : NodesF F A n l) (b : Bool) (hb : mayS l = b) :
    Calls Tryz.prog 58 #[.slice A n c] w fun e w' => e = .returned (.bool b) ∧ Below w.heap.size w w' := by
  obtain ⟨rfl, hl⟩ := hl
  have HB := Lib.hid hb
  clear hb
  go_enter Tryz.func58, Tryz.ntmps58
  go_wp2_with fail
  go_loopw [3, 4, 5, 6, 7, 8, 11] (fun o _ _ _ _ _ i wr => ∃ k : Nat, k ≤ l.length ∧ i = .int .i64 k ∧ Below w.heap.size w wr ∧ ∃ st A3 cp, o = .slice A3 st.length cp ∧ st.length ≤ cp ∧ Hid (parseS (l.take k) = some st) ∧ Rd (heapF wr) 1 A3 st.length ((opens st).map (Value.int .i64))) (fun _ _ _ _ _ _ i _ => l.length - (intOf i).toNat)
  case atStart => exact ⟨0, Nat.zero_le _, rfl, Below.refl _ _, [], none, 0, rfl, Nat.le_refl _, Lib.hid rfl, Rd.nil⟩
  case round =>
    obtain ⟨k, hk, rfl, hbl, st, A3, cp, rfl, hcp, hst, hO⟩ := hrel
    by_cases hlt : k < l.length
    · obtain ⟨ad, rfl, hL⟩ := hl (by omega)
      obtain ⟨Ak, ck, hck, hK, hd⟩ := hL k hlt
      have hFr := hF.below hbl
      obtain ⟨c0, c1, c2, c3, c4⟩ := hd.sat hFr
      have hltI : (k : Int) < (l.length : Int) := by omega
      have hpf : pushS st l[k] = none → b = false := fun h => by rw [← HB.out, mayS, push_fail hlt hst.out h]; rfl
      have htk : parseS (l.take (k + 1)) = pushS st l[k] := by rw [parse_take hlt, hst.out]; rfl
      have htot := parse_total hst.out
      rw [List.length_take, Nat.min_eq_left (by omega)] at htot
      generalize hnd : l[k] = nd at *
      have HND := Lib.hid hnd
      have HTK := Lib.hid htk
      have HTT := Lib.hid htot
      have hFS := fieldsS_eq nd
      clear hnd htk hd htot
      by_cases ha : arityS nd.kind < 0
      · have HA := Lib.hid (rarity_w nd.kind)
        have hno : fieldsS nd = false := by
          cases h : fieldsS nd with
          | false => rfl
          | true => have := fields_kids h; omega
        have HR := Lib.hid (hpf (push_nofields hno))
        clear hpf hno hFS
        generalize arityS nd.kind = ar at *
        go_wp2_with (go_at_call 105; refine (HA.out _).mono ?_; rintro e w' ⟨rfl, rfl⟩)
        go_ret
        exact ⟨by rw [HR.out] <;> rfl, bthen hbl (balloc _ _)⟩
      · by_cases hk2 : (nd.kids.length : Int) = arityS nd.kind
        · have ha' : arityS nd.kind = (nd.kids.length : Int) := hk2.symm
          have HA := Lib.hid (rarity_b nd.kind _ ha')
          have hk22 : nd.kids.length ≤ 2 := by have := arity_le nd.kind; omega
          have hkk : ((nd.kids.length : Int) == arityS nd.kind) = true := by rw [ha']; simp
          rw [hkk, Bool.and_true] at hFS
          clear hk2 ha ha' hkk
          by_cases hs : st.length < nd.kids.length
          · have HR := Lib.hid (hpf (push_short hs))
            have hsI : (st.length : Int) < (nd.kids.length : Int) := by omega
            clear hpf hFS
            go_wp2_with (go_at_call 105; refine (HA.out _).mono ?_; rintro e w' ⟨rfl, rfl⟩)
            go_ret
            exact ⟨by rw [HR.out] <;> rfl, bthen hbl (balloc _ _)⟩
          · have hsI : decide ((st.length : Int) < (nd.kids.length : Int)) = false := decide_eq_false (by omega)
            obtain ⟨b6, hb6⟩ : ∃ b6, b6 = !(if nd.kind = 3 then nameS nd.name.data.toList else nd.name.toList.isEmpty) := ⟨_, rfl⟩
            obtain ⟨b8, hb8⟩ : ∃ b8, b8 = !(if timedS nd.kind then spanS nd.lo nd.hi else spEq nd.lo nd.hi 0 0) := ⟨_, rfl⟩
            have hF6 : fieldsS nd = (!b6 && !b8) := by rw [hb6, hb8, Bool.not_not, Bool.not_not]; exact hFS
            clear hFS
            have HB6 := Lib.hid hb6
            have HB8 := Lib.hid hb8
            have HF6 := Lib.hid hF6
            clear hb6 hb8 hF6
            go_upto_region 6 with (go_at_call 105; refine (HA.out _).mono ?_; rintro e w' ⟨rfl, rfl⟩)
            go_cut [54] (fun cc wx => cc = .bool b6 ∧ wx = wr.alloc (.cells #[.int .i64 nd.kind, .string nd.name, .int .i64 nd.lo, .int .i64 nd.hi, .slice Ak nd.kids.length ck] 62))
            case first =>
              by_cases h3 : nd.kind = 3
              · have h3' : (nd.kind == 3) = true := by rw [h3]; rfl
                have h3n : (nd.kind != 3) = false := by rw [bne, h3']; rfl
                have hb6 : b6 = !nameS nd.name.data.toList := by rw [HB6.out, if_pos h3]
                clear h3
                cases hnm : nameS nd.name.data.toList
                all_goals
                  rw [hnm] at hb6
                  have HNm := Lib.hid (rName_b nd.name _ hnm)
                  subst hb6
                  clear hnm
                  go_wp2_with (go_at_call 106; refine (HNm.out _).mono ?_; rintro e w' ⟨rfl, rfl⟩)
                  go_meet
                  exact ⟨rfl, rfl⟩
              · have h3' : (nd.kind == 3) = false := by rw [beq_eq_false_iff_ne]; exact h3
                have h3n : (nd.kind != 3) = true := by rw [bne, h3']; rfl
                have hb6 : b6 = !nd.name.toList.isEmpty := by rw [HB6.out, if_neg h3]
                clear h3
                cases hnm : nd.name.toList.isEmpty
                · have hnm' : ¬ nd.name.toList = [] := List.isEmpty_eq_false_iff.1 hnm
                  rw [hnm] at hb6
                  subst hb6
                  go_wp2_with fail
                  go_meet
                  exact ⟨rfl, rfl⟩
                · have hnm' : nd.name.toList = [] := List.isEmpty_iff.1 hnm
                  rw [hnm] at hb6
                  subst hb6
                  go_wp2_with fail
                  go_meet
                  exact ⟨rfl, rfl⟩
            case rest =>
              obtain ⟨rfl, rfl⟩ := hcut
              cases b6
              · go_upto_region 8 with fail
                go_cut [75] (fun cc wx => cc = .bool b8 ∧ Below (wr.heap.size + 1) (wr.alloc (.cells #[.int .i64 nd.kind, .string nd.name, .int .i64 nd.lo, .int .i64 nd.hi, .slice Ak nd.kids.length ck] 62)) wx)
                case first =>
                  cases ht : timedS nd.kind
                  · have hb8 : b8 = !spEq nd.lo nd.hi 0 0 := by rw [HB8.out, ht, if_neg (by decide)]
                    have HT := Lib.hid (rtimed_b nd.kind _ ht)
                    clear ht
                    cases hsp : spEq nd.lo nd.hi 0 0
                    all_goals
                      rw [hsp] at hb8
                      subst hb8
                      go_wp2_with (go_at_call 107; refine (HT.out _).mono ?_; rintro e w' ⟨rfl, rfl⟩)
                      go_meet
                      exact ⟨rfl, Below.refl _ _⟩
                  · have hb8 : b8 = !spanS nd.lo nd.hi := by rw [HB8.out, ht, if_pos rfl]
                    have HT := Lib.hid (rtimed_b nd.kind _ ht)
                    have HM := Lib.hid (rmaySpan_w nd.lo nd.hi)
                    clear ht
                    generalize spanS nd.lo nd.hi = sp at *
                    cases sp
                    all_goals
                      subst hb8
                      go_wp2_with (first | (go_at_call 107; refine (HT.out _).mono ?_; rintro e w' ⟨rfl, rfl⟩) | (go_at_call 60; refine (HM.out _).mono ?_; rintro e w1 ⟨rfl, hw1⟩; obtain ⟨f0, f1, f2, f3, f4⟩ := ndBlk (n := nd) ((Blk.new _ _ _).call hw1)))
                      go_meet
                      exact ⟨rfl, hw1.mono (by simp)⟩
                case rest =>
                  obtain ⟨rfl, hwx⟩ := hcut
                  cases b8
                  · have hFt : fieldsS nd = true := by rw [HF6.out]; rfl
                    have hpa := push_all hFt (by omega : nd.kids.length ≤ st.length)
                    have hpb := fun j hj h => hpf (push_bad (n := nd) (st := st) (j := j) hj h)
                    have hle : nd.kids.length ≤ st.length := by omega
                    have hstl : st.length ≤ 1000 := by
                      have h1 := length_le_total st
                      have h2 := HTT.out
                      omega
                    obtain ⟨D, hD⟩ : ∃ D, st.length = D + nd.kids.length := ⟨st.length - nd.kids.length, by omega⟩
                    have hsub : ((st.length : Int) - (nd.kids.length : Int)) = (D : Int) := by omega
                    have hs2 : (D : Int) ≤ (st.length : Int) := by omega
                    have hD2 : D ≤ 1000 := by omega
                    have hOc : Rd (heapF wc) 1 A3 st.length ((opens st).map (Value.int .i64)) := hO.next ((balloc _ _).trans (hwx.mono (by simp)))
                    have hcut2 := hOc.cut (k := D) (cap := cp) (by omega) hcp
                    rw [Nat.mul_one, show st.length - D = nd.kids.length by omega] at hcut2
                    have HD := Lib.hid hD
                    clear hpf hD
                    go_upto_region 10 with fail
                    go_cut [7] (fun tt wx => ∃ T ct, tt = .slice T nd.kids.length ct ∧ nd.kids.length ≤ ct ∧ Rd (heapF wc) 1 T nd.kids.length (((opens st).map (Value.int .i64)).drop D) ∧ wx = wc)
                    case first =>
                      by_cases hcD : cp = D
                      · rw [if_pos hcD] at hcut2
                        go_wp2_with fail
                        go_meet
                        have hD := HD.out
                        exact ⟨A3, 0, by rw [show st.length - D = nd.kids.length by omega], by omega, hcut2, rfl⟩
                      · rw [if_neg hcD] at hcut2
                        go_wp2_with fail
                        go_meet
                        have hD := HD.out
                        exact ⟨_, cp - D, by rw [show st.length - D = nd.kids.length by omega], by omega, hcut2, rfl⟩
                    case rest =>
                      obtain ⟨T, ct, rfl, hct, hT, rfl⟩ := hcut
                      obtain ⟨f0, f1, f2, f3, f4⟩ := ndBlk (n := nd) (((Blk.new wr 62 #[.int .i64 nd.kind, .string nd.name, .int .i64 nd.lo, .int .i64 nd.hi, .slice Ak nd.kids.length ck]).below hwx (by omega)))
                      have hFq : Sat F wc := (hFr.alloc _).below (hwx.mono (by simp))
                      have hbw : Below w.heap.size w wc := bthen hbl ((balloc _ _).trans (hwx.mono (by simp)))
                      go_wp2_with fail
                      go_loopw [8, 83] (fun _ j wr2 => ∃ jj : Nat, jj ≤ nd.kids.length ∧ j = .int .i64 jj ∧ Hid (∀ i, i < jj → okK nd st i) ∧ ∃ q, wr2 = wc.drewN q) (fun _ j _ => nd.kids.length - (intOf j).toNat)
                      case atStart => exact ⟨0, Nat.zero_le _, rfl, Lib.hid (fun i hi => absurd hi (by omega)), 0, rfl⟩
                      case round =>
                        obtain ⟨jj, hjj, rfl, hok, q, rfl⟩ := hrel
                        by_cases hjl : jj < nd.kids.length
                        · obtain ⟨T0, hT0, hTk, hop, hkp, hiff⟩ := okK_at (by omega) hst.out hjl HD.out
                          obtain ⟨Akd, v, rfl, hv, hcell⟩ := hK.at1 hjl
                          obtain rfl : Value.int .i64 nd.kids[jj] = v := by simpa [hjl] using hv
                          have hcz := hFq.cell hcell
                          obtain ⟨Tad, v, rfl, hv2, hcell2⟩ := hT.at1 hjl
                          obtain rfl : Value.int .i64 (T0 : Int) = v := by
                            rw [List.getElem?_drop, List.getElem?_map, hop] at hv2
                            simpa using hv2
                          have hct := (sat_heapF wc).cell hcell2
                          obtain ⟨At, cat, _, _, hdt⟩ := hL T0 hT0
                          obtain ⟨t0, _, _, _, _⟩ := hdt.sat hFq
                          have hjI : (jj : Int) < (nd.kids.length : Int) := by omega
                          have hTI : (T0 : Int) < (l.length : Int) := by omega
                          have hFit := fits_eq (k := nd.kind) hkp
                          have hpbj := hpb jj hjl
                          clear hdt hv hv2 hcell hcell2 hop hkp
                          by_cases hz : nd.kids[jj] = (T0 : Int)
                          · have hzz : (nd.kids[jj] != (T0 : Int)) = false := by rw [bne_eq_false_iff_eq]; exact hz
                            have hFw := fits_w nd.kind l[T0].kind
                            rw [hFit] at hFw
                            cases hrw : (regS l[T0].kind == wantsS nd.kind)
                            · rw [hrw] at hFw
                              have HFw := Lib.hid hFw
                              have HR := Lib.hid (hpbj (fun h => by rw [(hiff.1 h).2] at hrw; simp at hrw))
                              clear hpbj hiff hFit hz hpa hpb hFw hrw
                              go_wp2_with fail
                              go_quiet ((go_at_call 108; exact quiet_add (HFw.out _)))
                              go_wp2_with fail
                              go_ret
                              exact ⟨by rw [HR.out] <;> rfl, below_drewN (below_drewN hbw _) _⟩
                            · rw [hrw] at hFw
                              have HFw := Lib.hid hFw
                              have HOK : Hid (∀ i, i < jj + 1 → okK nd st i) := Lib.hid (fun i hi => by
                                rcases Nat.lt_or_ge i jj with h | h
                                · exact hok.out i h
                                · obtain rfl : i = jj := by omega
                                  exact hiff.2 ⟨hz, by simpa using hrw⟩)
                              clear hpbj hiff hFit hz hpa hpb hFw hrw
                              go_wp2_with fail
                              go_quiet ((go_at_call 108; exact quiet_add (HFw.out _)))
                              go_wp2_with fail
                              go_roundw
                              case rel => exact ⟨jj + 1, by omega, by go_num, HOK, _, rfl⟩
                              case measure => simp [intOf] <;> omega
                          · have hzz : (nd.kids[jj] != (T0 : Int)) = true := by rw [bne_iff_ne]; exact hz
                            have HR := Lib.hid (hpbj (fun h => hz (hiff.1 h).1))
                            clear hpbj hiff hFit hz hpa hpb
                            go_wp2_with fail
                            go_quiet (fail)
                            go_wp2_with fail
                            go_ret
                            exact ⟨by rw [HR.out] <;> rfl, below_drewN (below_drewN hbw _) _⟩
                        · obtain rfl : jj = nd.kids.length := by omega
                          obtain ⟨tt, hpu⟩ := hpa hok.out
                          have hltJ : decide ((nd.kids.length : Int) < (nd.kids.length : Int)) = false := decide_eq_false (by omega)
                          have HST : Hid (parseS (l.take (k + 1)) = some (tt :: st.drop nd.kids.length)) := Lib.hid (HTK.out.trans hpu)
                          have hpre := hOc.pre (k := D) (by omega)
                          rw [Nat.mul_one] at hpre
                          rw [← List.map_take] at hpre
                          have hop2 : opens (tt :: st.drop nd.kids.length) = (opens st).take D ++ [(k : Int)] := by
                            have h1 := parse_total HST.out
                            rw [List.length_take, Nat.min_eq_left (by omega)] at h1
                            rw [opens, h1, opens_drop]
                            congr 2
                            · have := HD.out; omega
                            · congr 1; omega
                          have HOP := Lib.hid hop2
                          have HLN : Hid (D + 1 = (tt :: st.drop nd.kids.length).length) := Lib.hid (by have := HD.out; simp; omega)
                          clear hpa hpb hpu hop2
                          go_wp2_with (first | (at_builtin; go_loud (refine wpList_allI rfl (.tmp 111) (.tmp 117) rfl (xs := []) (B := wc.heap.size) (Own.empty F (wc.drewN q) wc.heap.size _ 1 (hFq.drewN q) rfl (Nat.le_refl _)) ((hFq.drewN q).alloc _) (by rfl) A3 D cp ((opens st).take D) (by rfl) (((sat_heapF wc).drewN q).alloc _) hpre (by omega) (by simp) ?_); intro v1 w1 hO1 hF1 hb1 hg1 hat1; have hB1 := hb1.size) | (at_builtin; go_loud (refine wpList_pushI rfl (.tmp 118) (.tmp 120) rfl (hO1.alloc _) (hF1.alloc _) (by rfl) w1.heap.size 1 (k : Int) (by rfl) (Blk.new _ _ _) (by omega) (Nat.le_trans (Nat.le_trans (balloc (wc.drewN q) _).size hB1) (balloc _ _).size) ?_); intro v2 w2 hO2 hF2 hb2 hg2 hat2; obtain ⟨A', cp', rfl, hcp', hrd⟩ := hO2.rdH))
                          go_roundw
                          case rel => exact ⟨k + 1, by omega, by go_num, hbw.trans ((((((below_drewN (Below.refl wc.heap.size wc) q).alloc (Nat.le_refl _) _).trans hb1).alloc (Nat.le_trans (balloc (wc.drewN q) _).size hB1) _).trans hb2).mono hbw.size), _, A', cp', by rw [← HLN.out], by rw [← HLN.out]; simpa using hcp', HST, by rw [← HLN.out, HOP.out]; simpa using hrd⟩
                          case measure => simp [intOf]; omega
                  · have HR := Lib.hid (hpf (push_nofields (by rw [HF6.out]; rfl)))
                    clear hpf
                    go_wp2_with fail
                    go_ret
                    exact ⟨by rw [HR.out] <;> rfl, bthen hbl ((balloc _ _).trans (hwx.mono (by simp)))⟩
              · have HR := Lib.hid (hpf (push_nofields (by rw [HF6.out]; rfl)))
                clear hpf
                go_wp2_with fail
                go_ret
                exact ⟨by rw [HR.out] <;> rfl, bthen hbl (balloc _ _)⟩
        · have HA := Lib.hid (rarity_w nd.kind)
          have hno : fieldsS nd = false := by
            cases h : fieldsS nd with
            | false => rfl
            | true => have := fields_kids h; omega
          have HR := Lib.hid (hpf (push_nofields hno))
          have hne : ((nd.kids.length : Int) != arityS nd.kind) = true := by rw [bne_iff_ne]; exact hk2
          have ha' : decide (arityS nd.kind < 0) = false := decide_eq_false ha
          clear hpf hno hFS hk2 ha
          generalize arityS nd.kind = ar at *
          go_wp2_with (go_at_call 105; refine (HA.out _).mono ?_; rintro e w' ⟨rfl, rfl⟩)
          go_ret
          exact ⟨by rw [HR.out] <;> rfl, bthen hbl (balloc _ _)⟩
    · have hpl : parseS l = some st := by have := hst.out; rwa [List.take_of_length_le (by omega)] at this
      have hltI : decide ((k : Int) < (l.length : Int)) = false := decide_eq_false (by omega)
      have HR : Hid (b = ((st.length : Int) == 1)) := Lib.hid (by
        rw [← HB.out]
        unfold mayS treeS
        rw [hpl]
        match st with
        | [] => rfl
        | [t] => rfl
        | _ :: _ :: st => simp; omega)
      clear hpl
      go_wp2_with fail
      go_ret
      exact ⟨by rw [HR.out] <;> rfl, hbl⟩
end Go.Proofs.YtdbbooibkiicnaaGreat
/-! The walk of the reference's Part. -/
namespace Go.Proofs.YtdbbooibkiicnaaGreat
open Go.RowKit
theorem shift_sub (d : Int) (ks : List Int) : ks.map (· - d) = ks.map (· + -d) := by
  apply List.map_congr_left
  intro k _
  omega
theorem newNd (n n' : Nd) (A : Option Addr) (c : Nat) (e : n' = { n with kids := n'.kids }) (hl : n'.kids.length = n.kids.length) (W : World) :
    Blk (W.alloc (.cells #[.int .i64 n.kind, .string n.name, .int .i64 n.lo, .int .i64 n.hi, .slice A n.kids.length c] 62)) W.heap.size 62 #[.int .i64 n'.kind, .string n'.name, .int .i64 n'.lo, .int .i64 n'.hi, .slice A n'.kids.length c] := by
  rw [hl, show n'.kind = n.kind by rw [e], show n'.name = n.name by rw [e], show n'.lo = n.lo by rw [e], show n'.hi = n.hi by rw [e]]
  exact Blk.new _ _ _
set_option maxRecDepth 100000 in
set_option maxHeartbeats 4000000 in
theorem rpart_w {F : Fz} {w : World} (hF : Sat F w) (l : List Nd) (hn : l.length ≤ 1000) (A : Option Addr) (n c : Nat) (hc : n ≤ c) (hl : NodesF F A n l) (i : Int) (hi1 : -9223372036854775808 ≤ i) (hi2 : i ≤ 9223372036854775807) :
    Calls Tryz.prog 32 #[.slice A n c, .int .i64 i] w (RetN F w (partL l i)) := by
  have hS := fun b h => rmay_w hF l hn A n c hl b h
  obtain ⟨rfl, hl2⟩ := hl
  cases ht : treeS l with
  | none =>
    have HS := Lib.hid (hS false (by unfold mayS; rw [ht]; rfl))
    have HP := Lib.hid (part_none ht i)
    clear hS ht hl2
    go_enter Tryz.func32, Tryz.ntmps32
    go_wp2_with (go_at_call 58; refine HS.out.mono ?_; rintro e w' ⟨rfl, hw⟩)
    go_ret
    rw [HP.out]
    exact retN_nil hw hF
  | some t =>
    have HS := Lib.hid (hS true (by unfold mayS; rw [ht]; rfl))
    clear hS
    by_cases h0 : i < 0
    · have HP := Lib.hid (part_out (l := l) (i := i) (.inl h0))
      clear ht hl2
      go_enter Tryz.func32, Tryz.ntmps32
      go_wp2_with (go_at_call 58; refine HS.out.mono ?_; rintro e w' ⟨rfl, hw⟩)
      go_ret
      rw [HP.out]
      exact retN_nil hw hF
    · have h0' : decide (i < 0) = false := decide_eq_false h0
      by_cases h1 : (l.length : Int) ≤ i
      · have HP := Lib.hid (part_out (l := l) (i := i) (.inr h1))
        clear ht h0 hl2
        go_enter Tryz.func32, Tryz.ntmps32
        go_wp2_with (go_at_call 58; refine HS.out.mono ?_; rintro e w' ⟨rfl, hw⟩)
        go_ret
        rw [HP.out]
        exact retN_nil hw hF
      · have h1' : decide ((l.length : Int) ≤ i) = false := decide_eq_false h1
        obtain ⟨k, rfl⟩ := Int.eq_ofNat_of_zero_le (show 0 ≤ i by omega)
        have hkl : k < l.length := by omega
        obtain ⟨ad, rfl, hL⟩ := hl2 (by omega)
        have hlF : NodesF F (some ad) l.length l := ⟨rfl, fun _ => ⟨ad, rfl, hL⟩⟩
        obtain ⟨hp1, hp2, hp3⟩ := part_cut ht hkl
        have hts : k < t.size := by rw [← tree_len ht]; exact hkl
        have hkb := (KidsB.of hn ht).sub (l' := (l.drop (k + 1 - (t.sub k).size)).take (t.sub k).size) (fun n hn => List.mem_of_mem_drop (List.mem_of_mem_take hn))
        have hsp := (t.sub k).size_pos
        have hcut := (hlF.cut (k := k + 1 - (t.sub k).size) (cap := c) (by omega) hc).pre (k := (t.sub k).size) (by omega)
        rw [if_neg (by omega)] at hcut
        have hST := fun (W : World) (h : Sat F W) => start_w h l hn (some ad) l.length c hlF ht k hkl
        have HP2 := Lib.hid hp2
        have HP3 := Lib.hid hp3
        generalize (t.sub k).size = sz at *
        obtain ⟨fr, hfr⟩ : ∃ fr, k + 1 = fr + sz := ⟨k + 1 - sz, by omega⟩
        have hfe : k + 1 - sz = fr := by omega
        rw [hfe] at hkb hcut HP2 hST
        have HST := Lib.hid hST
        have hLl : ((l.drop fr).take sz).length = sz := hcut.1
        generalize hLe : (l.drop fr).take sz = L at *
        have HCUT := Lib.hid hcut.2
        have HLl := Lib.hid hLl
        have HKB := Lib.hid hkb
        have hsub : (k : Int) + 1 - (fr : Int) = (sz : Int) := by omega
        have hsub2 : k + 1 - fr = sz := by omega
        have hb1 : (fr : Int) ≤ (k : Int) + 1 := by omega
        have hb2 : (k : Int) + 1 ≤ (c : Int) := by omega
        have hb3 : (k : Int) < (l.length : Int) := by omega
        have hne : ¬ c = fr := by omega
        have hszl : sz ≤ 1000 := by omega
        have hfl : fr ≤ 1000 := by omega
        clear ht h0 h1 hp1 hp2 hp3 hkb hcut hST hfe hLe hLl hlF hL hl2 hsp hts hfr
        go_enter Tryz.func32, Tryz.ntmps32
        go_wp2_with (first | (go_at_call 58; refine HS.out.mono ?_; rintro e w1 ⟨rfl, hw⟩) | (go_at_call 59; refine (HST.out _ (hF.below hw)).mono ?_; rintro e w2 ⟨rfl, rfl⟩))
        go_loopw [6, 8, 9, 11, 34] (fun o _ _ _ i wr => ∃ (m : Nat) (F' : Fz) (A6 : Option Addr) (c6 : Nat), m ≤ sz ∧ i = .int .i64 m ∧ o = .slice A6 m c6 ∧ m ≤ c6 ∧ Below w.heap.size w wr ∧ Sat F' wr ∧ Fle w F F' ∧ OwnN F' wr w.heap.size (.slice A6 m c6) ((L.take m).map (shiftN (-(fr : Int))))) (fun _ _ _ _ i _ => sz - (intOf i).toNat)
        case atStart => exact ⟨0, F, none, 0, Nat.zero_le _, rfl, rfl, Nat.le_refl _, hw, hF.below hw, Fle.refl _ _, OwnN.nil _ _ _⟩
        case round =>
          obtain ⟨m, F', A6, c6, hm, rfl, rfl, hc6, hbl, hF', hle, hON⟩ := hrel
          obtain ⟨W, hW⟩ : ∃ W, W = wr := ⟨_, rfl⟩
          subst hW
          by_cases hlt : m < sz
          · have hml : m < L.length := by rw [HLl.out]; exact hlt
            obtain ⟨ad', had, hL⟩ := HCUT.out (by omega)
            injection had with had
            subst had
            obtain ⟨Ak, ck, hck, hK, hd⟩ := hL m hml
            obtain ⟨c0, c1, c2, c3, c4⟩ := hd.sat (hF.below hbl)
            have hltI : (m : Int) < (sz : Int) := by omega
            have htk : (L.take (m + 1)).map (shiftN (-(fr : Int))) = (L.take m).map (shiftN (-(fr : Int))) ++ [shiftN (-(fr : Int)) L[m]] := by
              rw [List.take_succ_eq_append_getElem hml, List.map_append]; rfl
            obtain ⟨hk2, hkk⟩ := HKB.out _ (List.getElem_mem hml)
            have hlenm : ((L.take m).map (shiftN (-(fr : Int)))).length = m := by simp; omega
            generalize hnd : L[m] = nd at *
            have HTK := Lib.hid htk
            have HKK := Lib.hid hkk
            have HLM := Lib.hid hlenm
            clear hnd htk hkk hd hL hlenm
            have hgr := fun g (h : (Value.slice A6 m c6).ownBlock = some g) => (hON.lt g h).2
            have hNB := Blk.new W 62 #[.int .i64 nd.kind, .string nd.name, .int .i64 nd.lo, .int .i64 nd.hi, .slice Ak nd.kids.length ck]
            have hWz := hbl.size
            go_wp2_with fail
            go_loopw [9, 11, 41] (fun o _ j wr2 => ∃ (jj : Nat) (A9 : Option Addr) (c9 : Nat), jj ≤ nd.kids.length ∧ j = .int .i64 jj ∧ o = .slice A9 jj c9 ∧ jj ≤ c9 ∧ Below (W.heap.size + 1) (W.alloc (.cells #[.int .i64 nd.kind, .string nd.name, .int .i64 nd.lo, .int .i64 nd.hi, .slice Ak nd.kids.length ck] 62)) wr2 ∧ Own F' wr2 (W.heap.size + 1) 3 1 (.slice A9 jj c9) jj (((nd.kids.take jj).map (· - (fr : Int))).map (Value.int .i64))) (fun _ _ j _ => nd.kids.length - (intOf j).toNat)
            case atStart => exact ⟨0, none, 0, Nat.zero_le _, rfl, rfl, Nat.le_refl _, Below.refl _ _, Own.nil _ _ _ _ _⟩
            case round =>
              obtain ⟨jj, A9, c9, hjj, rfl, rfl, hc9, hbW, hO⟩ := hrel
              have hbw2 : Below w.heap.size w wr := hbl.trans (((balloc _ _).trans (hbW.mono (by omega))).mono hWz)
              have hF2 : Sat F' wr := (hF'.alloc _).below (hbW.mono (by simp))
              have hz2 : W.heap.size + 1 ≤ wr.heap.size := by have := hbW.size; simpa using this
              by_cases hjl : jj < nd.kids.length
              · obtain ⟨Akd, v, rfl, hv, hcell⟩ := hK.at1 hjl
                obtain rfl : Value.int .i64 nd.kids[jj] = v := by simpa [hjl] using hv
                have hcz := (hF.below hbw2).cell hcell
                obtain ⟨hK1, hK2⟩ := HKK.out _ (List.getElem_mem hjl)
                have htj : (nd.kids.take (jj + 1)).map (· - (fr : Int)) = (nd.kids.take jj).map (· - (fr : Int)) ++ [nd.kids[jj] - (fr : Int)] := by
                  rw [List.take_succ_eq_append_getElem hjl, List.map_append]; rfl
                have HTJ := Lib.hid htj
                have hjI : (jj : Int) < (nd.kids.length : Int) := by omega
                generalize nd.kids[jj] = K at *
                clear htj hv hcell
                go_wp2_with (at_builtin; refine wpList_pushI rfl (.tmp 45) (.tmp 49) rfl (hO.alloc _) (hF2.alloc _) (by rfl) wr.heap.size 1 (K - (fr : Int)) (by rfl) (Blk.new _ _ _) (by omega) (by simp; omega) ?_; intro v2 w2 hO2 hFF hb2 hg2 hat2; obtain ⟨A', cp', rfl, hcp'⟩ := hO2.shape)
                go_roundw
                case rel => exact ⟨jj + 1, A', cp', by omega, by go_num, rfl, hcp', (hbW.alloc hz2 _).trans hb2, by rw [HTJ.out]; exact hO2⟩
                case measure => simp [intOf]; omega
              · obtain rfl : jj = nd.kids.length := by omega
                have hdec : decide ((nd.kids.length : Int) < (nd.kids.length : Int)) = false := decide_eq_false (by omega)
                rw [List.take_length, shift_sub] at hO
                obtain ⟨F2, A2, c2', he, hc2', hRd, hF3, hle2, hFb⟩ := hO.ints hF2 w (by omega)
                rw [List.length_map] at he hc2'
                injection he with e1 _ e3
                subst e1 e3
                have hNB2 := hNB.below hbW (by omega)
                obtain ⟨f0, f1, f2, f3, f4⟩ := ndBlk' hNB2
                have fz := hNB2.frozen 4
                have hFn : F2 W.heap.size = none := (hFb _ (by omega)).trans (hF'.none_ (Nat.le_refl _))
                have hON2 : OwnN F2 wr w.heap.size (.slice A6 m c6) ((L.take m).map (shiftN (-(fr : Int)))) :=
                  ((hON.alloc _).below2 hbW (fun g h => by have := hgr g h; omega)).le2 hle2.cle (fun g h => hFb g (by have := hgr g h; omega))
                have hON3 := hON2.setFar (a := ⟨W.heap.size, 4, none⟩) (fun e => by have := hgr _ e; simp at this) (.slice A9 nd.kids.length c9)
                have hF4 := hF3.setCell (p := ⟨W.heap.size, 4, none⟩) hFn (.slice A9 nd.kids.length c9)
                have hb4 := hbw2.setCell (p := ⟨W.heap.size, 4, none⟩) hWz (.slice A9 nd.kids.length c9)
                have hBN := newNd nd (shiftN (-(fr : Int)) nd) A9 c9 rfl (by simp [shiftN]) (wr.setCell ⟨W.heap.size, 4, none⟩ (.slice A9 nd.kids.length c9))
                rw [size_setCell] at hBN
                have hck9 : (shiftN (-(fr : Int)) nd).kids.length ≤ c9 := by simpa [shiftN] using hc2'
                have HBN := Lib.hid hBN
                have HRD := Lib.hid hRd
                have hln1 : ((L.take m).map (shiftN (-(fr : Int)))).length + 1 ≤ 1000000 := by rw [HLM.out]; omega
                have hlm1 : ((L.take (m + 1)).map (shiftN (-(fr : Int)))).length = m + 1 := by have := HLl.out; simp; omega
                have HLM1 := Lib.hid hlm1
                clear hBN hRd hlm1
                go_wp2_with (at_builtin; refine wpList_pushN rfl (.tmp 54) (.tmp 56) rfl (hON3.alloc _) (hF4.alloc _) (by rfl) wr.heap.size 1 (shiftN (-(fr : Int)) nd) A9 c9 (by rfl) HBN.out hck9 HRD.out hln1 (by simp; omega) ?_; intro v2 w2 hO2 hFF hb2 hg2 hat2; rw [← HTK.out] at hO2; obtain ⟨A', cp', hv2, hcp'⟩ := hO2.shape; rw [HLM1.out] at hv2 hcp'; subst hv2)
                go_roundw
                case rel => exact ⟨m + 1, F2, A', cp', by omega, by go_num, rfl, hcp', (hb4.alloc (by rw [size_setCell]; omega) _).trans hb2, hFF, hle.trans hle2 (Nat.le_refl _), hO2⟩
                case measure => simp [intOf]; omega
          · obtain rfl : m = sz := by omega
            have hdec : decide ((m : Int) < (m : Int)) = false := decide_eq_false (by omega)
            rw [List.take_of_length_le (by rw [HLl.out]; exact Nat.le_refl _), HP2.out] at hON
            obtain ⟨F2, A2, c2, he, hc2, hN, hF2, hle2, _⟩ := hON.freeze hF' w (Nat.le_refl _)
            have HE := Lib.hid he
            clear he
            go_wp2_with fail
            go_ret
            rw [HP3.out]
            exact ⟨A2, c2, F2, by rw [← HE.out] <;> rfl, hc2, hN, hbl, hF2, hle.trans hle2 (Nat.le_refl _)⟩
end Go.Proofs.YtdbbooibkiicnaaGreat
