/- The walk of MergeTells. -/
import Derived.Test.YtgmbicjcfhmcdaaAw32
import Derived.Test.YtgmbicjcfhmcdaaRefM
set_option linter.unusedVariables false
set_option linter.unusedSimpArgs false
/-! The walk of MergeTells. -/
namespace Go.Proofs.Ytgmbicjcfhmcdaa
open Go.RowKit
attribute [local go_sem ↓] Go.wp_at_zero Go.wp_at_succ
theorem mvR_len (U ss : List ByteArray) (ids : List Int) : (mvR U ss ids).length ≤ U.length := by
  unfold mvR
  rw [List.length_map]
  exact Nat.le_trans (List.length_filter_le _ _) (by simp)
theorem mergeM_len {ls : List TrS} (hn : ls.length ≤ 20) (hb : ∀ t ∈ ls, t.1.length ≤ 100 ∧ t.2.length ≤ 1000 ∧ ∀ e ∈ t.2, e.ids.length ≤ 1000) : (mergeM ls).1.1.length ≤ 64 ∧ (mergeM ls).1.2.length ≤ 20000 ∧ (∀ e ∈ (mergeM ls).1.2, e.ids.length ≤ 64) ∧ (mergeM ls).2 ≤ 4 := by
  unfold mergeM
  split
  · split
    · exact ⟨Nat.zero_le _, Nat.zero_le _, fun e h => (by cases h), Nat.le_refl _⟩
    · rename_i h64
      refine ⟨by show (namesT ls).length ≤ 64; omega, ?_, fun e he => ?_, Nat.zero_le _⟩
      · have h1 := mergeT_len ls 1000 fun t ht => (hb t ht).2.1
        have h3 : ls.length * 1000 ≤ 20 * 1000 := Nat.mul_le_mul_right _ hn
        show (mergeT ls).2.length ≤ 20000
        omega
      · obtain ⟨p, _, rfl⟩ := List.mem_map.1 he
        have := mvR_len (namesT ls) (ls.getD p.1 default).1 p.2.ids
        show (mvR (namesT ls) (ls.getD p.1 default).1 p.2.ids).length ≤ 64
        omega
  · exact ⟨Nat.zero_le _, Nat.zero_le _, fun e h => (by cases h), by show 1 ≤ 4; omega⟩
/-- What Merge and the reference's Merge both leave. -/
def RetBo (X : World) (U : List ByteArray) (V : List Evt) (nU nV k : Nat) (e : Ending) (w' : World) : Prop := ∃ An cn Ae ce, e = .returned (.tuple #[.agg #[.slice An nU cn, .slice Ae nV ce], .int .i64 (k : Nat)]) ∧ nU ≤ cn ∧ nV ≤ ce ∧ Below X.heap.size X w' ∧ Rd (heapF w') 1 An nU (U.map Value.string) ∧ EvsF (heapF w') Ae nV V
theorem both32 {F : Fz} (ls : List TrS) (A : Option Addr) (n c : Nat) (hl : TrsF F A n ls) (hn : n ≤ 20) (hb : ∀ t ∈ ls, t.1.length ≤ 100 ∧ t.2.length ≤ 1000 ∧ ∀ e ∈ t.2, e.ids.length ≤ 1000) {U : List ByteArray} {V : List Evt} {nU nV k : Nat} (h1 : (mergeM ls).1.1 = U) (h2 : (mergeM ls).1.2 = V) (h3 : (mergeM ls).2 = k) (h4 : U.length = nU) (h5 : V.length = nV) (X : World) (hX : Sat F X) :
    Calls Try.prog 9 #[.slice A n c] X (RetBo X U V nU nV k) ∧ Calls Try.prog 10 #[.slice A n c] X (RetBo X U V nU nV k) := by
  have key : ∀ e w', RetMg X (mergeM ls) e w' → RetBo X U V nU nV k e w' := fun e w' ⟨An, cn, Ae, ce, q1, q2, q3, q4, q5, q6⟩ => by
    rw [h1, h4] at q2 q5
    rw [h2, h5] at q3 q6
    refine ⟨An, cn, Ae, ce, ?_, q2, q3, q4, q5, q6⟩
    rw [q1, h1, h2, h3, h4, h5]
  exact ⟨(merge_w hX ls A n c hl hn hb).mono key, (refMerge_w hX ls A n c hl hn hb).mono key⟩
theorem sameT_true {X : World} {U : List ByteArray} {V : List Evt} {nU nV : Nat} (h4 : U.length = nU) (h5 : V.length = nV) (hU : nU ≤ 100000) (hV : nV ≤ 100000) (hid : ∀ e ∈ V, e.ids.length ≤ 64) {An Ae Bn Be : Option Addr} {cn ce dn de : Nat} (r1 : Rd (heapF X) 1 An nU (U.map Value.string)) (e1 : EvsF (heapF X) Ae nV V) (r2 : Rd (heapF X) 1 Bn nU (U.map Value.string)) (e2 : EvsF (heapF X) Be nV V) :
    Calls Try.prog 11 #[.agg #[.slice An nU cn, .slice Ae nV ce], .agg #[.slice Bn nU dn, .slice Be nV de]] X fun e w' => e = .returned (.bool true) ∧ Below X.heap.size X w' :=
  sameTrace_w (sat_heapF X) (U, V) (U, V) An Ae Bn Be nU nV nU nV cn ce dn de (by show U.length ≤ 100000; omega) r1 r2 hV e1 e2 (fun e he => by have := hid e he; omega) true ⟨fun _ => rfl, fun _ => rfl⟩
set_option maxRecDepth 100000 in
set_option maxHeartbeats 4000000 in
theorem tells32_c {F : Fz} {w : World} (hF : Sat F w) (ls : List TrS) (A : Option Addr) (n c : Nat) (hl : TrsF F A n ls) :
    Calls Try.prog 3 #[.slice A n c] w fun e w' => e = .returned (.bool true) ∧ Below w.heap.size w w' := by
  have HAW := Lib.hid (fun (X : World) => awake32_w X)
  by_cases h20 : 20 < n
  · have h20I : (20 : Int) < (n : Int) := by omega
    clear hl
    go_enter Try.func3, Try.ntmps3
    go_wp2_with (go_at_call 8; refine (HAW.out _).mono ?_; rintro e w1 ⟨rfl, hb1⟩)
    go_ret
    exact ⟨rfl, hb1⟩
  · have h20I : ¬ (20 : Int) < (n : Int) := by omega
    have HL := Lib.hid hl
    have HLN : Hid (ls.length = n) := Lib.hid hl.1
    have HF := Lib.hid hF
    have hn : n ≤ 20 := by omega
    clear hl hF
    go_enter Try.func3, Try.ntmps3
    go_wp2_with fail
    go_loopw [4, 6, 17] (fun _ _ v17 wr => ∃ i : Nat, i ≤ n ∧ v17 = .int .i64 i ∧ Hid (∀ t ∈ ls.take i, t.1.length ≤ 100 ∧ t.2.length ≤ 1000 ∧ ∀ e ∈ t.2, e.ids.length ≤ 1000) ∧ Below w.heap.size w wr) (fun _ _ v17 _ => n - (intOf v17).toNat)
    case atStart => exact ⟨0, Nat.zero_le _, rfl, Lib.hid (fun t ht => by simp at ht), Below.refl _ _⟩
    case round =>
      obtain ⟨i, hi, rfl, HB, hbl⟩ := hrel
      by_cases hlt : i < n
      · have hiI : (i : Int) < (n : Int) := by omega
        have hil : i < ls.length := by rw [HLN.out]; exact hlt
        obtain ⟨ad, rfl, hrow⟩ := HL.out.2 (by omega)
        obtain ⟨An, cn, Ae, ce, hcn, hce, c0, c1, hrn, hev⟩ := hrow i hil
        have hFw : Sat F wr := HF.out.below hbl
        have z0 := hFw.cell c0
        have z1 := hFw.cell c1
        have HB2 : Hid (ls[i].1.length ≤ 100 → ls[i].2.length ≤ 1000 → (∀ e ∈ ls[i].2, e.ids.length ≤ 1000) → ∀ t ∈ ls.take (i + 1), t.1.length ≤ 100 ∧ t.2.length ≤ 1000 ∧ ∀ e ∈ t.2, e.ids.length ≤ 1000) := Lib.hid (fun b1 b2 b3 t ht => by
          rw [List.take_succ_eq_append_getElem hil, List.mem_append] at ht
          rcases ht with ht | ht
          · exact HB.out t ht
          · simp at ht; subst ht; exact ⟨b1, b2, b3⟩)
        obtain ⟨K, hK⟩ : ∃ K, ls[i].1.length = K := ⟨_, rfl⟩
        obtain ⟨es, hes⟩ : ∃ es, ls[i].2 = es := ⟨_, rfl⟩
        obtain ⟨Q, hQ⟩ : ∃ Q, es.length = Q := ⟨_, rfl⟩
        rw [hK] at z0 HB2
        simp only [hes] at z1 HB2 hev
        rw [hQ] at z1 HB2 hev
        replace z1 : wr.cell? ⟨(ad.add (i * 2)).block, (ad.add (i * 2)).off + 1, none⟩ = some (.slice Ae Q ce) := z1
        have HQ := Lib.hid hQ
        have HBL : Hid (Below w.heap.size w (wr.alloc (.cells #[.slice An K cn, .slice Ae Q ce] 27))) := Lib.hid (hbl.alloc hbl.size _)
        clear c0 c1 hrow hrn hK hes hQ hil hFw hcn hce hbl
        by_cases h1 : 100 < K
        · have h1I : (100 : Int) < (K : Int) := by omega
          clear hev
          go_wp2_with (go_at_call 8; refine (HAW.out _).mono ?_; rintro e w1 ⟨rfl, hb1⟩)
          go_ret
          exact ⟨rfl, bthen HBL.out hb1⟩
        · have h1I : ¬ (100 : Int) < (K : Int) := by omega
          by_cases h2 : 100 < Q
          · have h2I : (100 : Int) < (Q : Int) := by omega
            clear hev
            go_wp2_with (go_at_call 8; refine (HAW.out _).mono ?_; rintro e w1 ⟨rfl, hb1⟩)
            go_ret
            exact ⟨rfl, bthen HBL.out hb1⟩
          · have h2I : ¬ (100 : Int) < (Q : Int) := by omega
            go_wp2_with fail
            clear z0 z1
            go_loopw [6, 35] (fun _ v35 wr => ∃ j : Nat, j ≤ Q ∧ v35 = .int .i64 j ∧ Hid (∀ e ∈ es.take j, e.ids.length ≤ 1000) ∧ Below w.heap.size w wr) (fun _ v35 _ => Q - (intOf v35).toNat)
            case atStart => exact ⟨0, Nat.zero_le _, rfl, Lib.hid (fun t ht => by simp at ht), HBL.out⟩
            case round =>
              obtain ⟨j, hj, rfl, HE, hbl⟩ := hrel
              by_cases hjQ : j < Q
              · have hjI : (j : Int) < (Q : Int) := by omega
                have hjl : j < es.length := by rw [HQ.out]; exact hjQ
                obtain ⟨ax, Ai, ci, rfl, ht, hci, hri, e0, e1⟩ := ev_at hev hjl
                have hFw : Sat F wr := HF.out.below hbl
                have y0 := hFw.cell e0
                have y1 := hFw.cell e1
                have HE2 : Hid (es[j].ids.length ≤ 1000 → ∀ e ∈ es.take (j + 1), e.ids.length ≤ 1000) := Lib.hid (fun b e he => by
                  rw [List.take_succ_eq_append_getElem hjl, List.mem_append] at he
                  rcases he with he | he
                  · exact HE.out e he
                  · simp at he; subst he; exact b)
                obtain ⟨T, hT⟩ : ∃ T, es[j].time = T := ⟨_, rfl⟩
                obtain ⟨ni, hni⟩ : ∃ ni, es[j].ids.length = ni := ⟨_, rfl⟩
                rw [hT] at y0
                rw [hni] at y1 HE2
                replace y1 : wr.cell? ⟨(ax.add (j * 2)).block, (ax.add (j * 2)).off + 1, none⟩ = some (.slice Ai ni ci) := y1
                have HBA : Hid (Below w.heap.size w (wr.alloc (.cells #[.int .u64 (T : Nat), .slice Ai ni ci] 31))) := Lib.hid (hbl.alloc hbl.size _)
                clear hev ht hci hri e0 e1 hT hni hFw hbl hjl
                by_cases h3 : 100 < ni
                · have h3I : (100 : Int) < (ni : Int) := by omega
                  go_wp2_with (go_at_call 8; refine (HAW.out _).mono ?_; rintro e w1 ⟨rfl, hb1⟩)
                  go_ret
                  exact ⟨rfl, bthen HBA.out hb1⟩
                · have h3I : ¬ (100 : Int) < (ni : Int) := by omega
                  have HE3 := Lib.hid (HE2.out (by omega))
                  go_wp2_with fail
                  go_roundw
                  case rel => exact ⟨j + 1, by omega, by go_num, HE3, HBA.out⟩
                  case measure => simp [intOf]; omega
              · obtain rfl : j = Q := by omega
                have hdec : decide ((j : Int) < (j : Int)) = false := decide_eq_false (by omega)
                have hta : es.take j = es := by rw [← HQ.out, List.take_length]
                rw [hta] at HE
                have HB3 := Lib.hid (HB2.out (by omega) (by omega) HE.out)
                clear hev hta
                go_wp2_with fail
                go_roundw
                case rel => exact ⟨i + 1, by omega, by go_num, HB3, hbl⟩
                case measure => simp [intOf]; omega
      · obtain rfl : n = i := by omega
        have hdec : decide ((n : Int) < (n : Int)) = false := decide_eq_false (by omega)
        have hta : ls.take n = ls := by rw [← HLN.out, List.take_length]
        rw [hta] at HB
        have hLN := HLN.out
        obtain ⟨b1, b2, b3, b4⟩ := mergeM_len (ls := ls) (by omega) HB.out
        obtain ⟨U, hU⟩ : ∃ U, (mergeM ls).1.1 = U := ⟨_, rfl⟩
        obtain ⟨V, hV⟩ : ∃ V, (mergeM ls).1.2 = V := ⟨_, rfl⟩
        obtain ⟨k, hk⟩ : ∃ k, (mergeM ls).2 = k := ⟨_, rfl⟩
        obtain ⟨nU, hnU⟩ : ∃ nU, U.length = nU := ⟨_, rfl⟩
        obtain ⟨nV, hnV⟩ : ∃ nV, V.length = nV := ⟨_, rfl⟩
        rw [hU] at b1
        rw [hV] at b2 b3
        rw [hnU] at b1
        rw [hnV] at b2
        have HBO := Lib.hid (both32 ls A n c HL.out hn HB.out hU hV hk hnU hnV)
        have HFw := Lib.hid (HF.out.below hbl)
        have HBL := Lib.hid hbl
        have HB3 := Lib.hid b3
        have HUV : Hid (U.length = nU ∧ V.length = nV) := Lib.hid ⟨hnU, hnV⟩
        clear hU hV hk hbl hta hLN b3 hnU hnV HLN HL
        go_wp2_with (first
          | (go_at_call 9; refine (HBO.out _ HFw.out).1.mono ?_; rintro e w1 ⟨An, cn, Ae, ce, rfl, hcn, hce, hb1, hrn, hev⟩; have HN1 := Lib.hid (bthen hb1 (balloc w1 (.cells #[.slice An nU cn, .slice Ae nV ce] 27))); have HT1 := Lib.hid (Blk.new w1 27 #[.slice An nU cn, .slice Ae nV ce]))
          | (go_at_call 10; refine (HBO.out _ (HFw.out.below HN1.out)).2.mono ?_; rintro e w2 ⟨Bn, dn, Be, de, rfl, hdn, hde, hb2, hrn2, hev2⟩; have hT1 := HT1.out.call hb2; obtain ⟨q0, q1, _, _⟩ := blk2E hT1; have hq := hT1.lt; have hb12 := bthen (balloc w1 (.cells #[.slice An nU cn, .slice Ae nV ce] 27)) hb2; have hbX := balloc w2 (.cells #[.slice Bn nU dn, .slice Be nV de] 27); have HST := Lib.hid (sameT_true (cn := cn) (ce := ce) (dn := dn) (de := de) HUV.out.1 HUV.out.2 (by omega) (by omega) HB3.out (rd_call (rd_call hrn hb12) hbX) ((hev.cle (cle_below hb12)).cle (cle_below hbX)) (rd_call hrn2 hbX) (hev2.cle (cle_below hbX))))
          | (go_at_call 11; refine HST.out.mono ?_; rintro e w3 ⟨rfl, hb3⟩)
          | (go_at_call 8; refine (HAW.out _).mono ?_; rintro e w4 ⟨rfl, hb4⟩))
        go_ret
        exact ⟨rfl, bthen HBL.out (bthen HN1.out (bthen hb2 (bthen hbX (bthen hb3 hb4))))⟩
end Go.Proofs.Ytgmbicjcfhmcdaa
