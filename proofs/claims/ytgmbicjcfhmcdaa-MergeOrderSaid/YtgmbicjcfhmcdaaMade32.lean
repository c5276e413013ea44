/- The walks of law 32's traces and of MergeMade. -/
import Derived.Test.YtgmbicjcfhmcdaaMake32
import Derived.Test.YtgmbicjcfhmcdaaTells32
set_option linter.unusedVariables false
set_option linter.unusedSimpArgs false
/-! The walks of law 32's traces and of MergeMade. -/
namespace Go.Proofs.Ytgmbicjcfhmcdaa
open Go.RowKit
attribute [local go_sem ↓] Go.wp_at_zero Go.wp_at_succ
theorem hx_grown {w w' : World} {o o' : Option Nat} (hg : w.grownBy w' o) (hat : o' = o ∨ o' = some w.heap.size) : CLe (hx w o.toList) (hx w' o'.toList) := fun a v hc => by
  unfold Fz.cell at hc ⊢
  by_cases ho : a.block ∈ o.toList
  · rw [hx_in ho] at hc; cases hc
  · rw [hx_out ho] at hc
    have hb : a.block < w.heap.size := by
      cases e : w.heap[a.block]? with
      | none => rw [e] at hc; cases hc
      | some o => exact (Array.getElem?_eq_some_iff.1 e).1
    have ho' : a.block ∉ o'.toList := by
      rcases hat with e | e
      · rw [e]; exact ho
      · rw [e]; simp; omega
    rw [hx_out ho', hg.block _ hb (fun e => ho (by rw [← e]; simp))]
    exact hc
theorem hx_call {w w' : World} {Gs : List Nat} (hb : Below w.heap.size w w') : CLe (hx w Gs) (hx w' Gs) := (Wr.of_below hb).cle
theorem trace_info : (Try.prog.info? 27).map (fun i => (i.zero, i.size, i.bytes)) = some (some (.agg #[.slice none 0 0, .slice none 0 0]), 2, 48) := by kernel_rfl
set_option maxRecDepth 100000 in
set_option maxHeartbeats 4000000 in
theorem traces32_w {F : Fz} {w : World} (hF : Sat F w) (ps : List PtS) (A : Option Addr) (n c : Nat) (hl : PartsF F A n ps) :
    Calls Try.prog 12 #[.slice A n c] w fun e w' => ∃ B m d, e = .returned (.slice B m d) ∧ m = (tracesT ps).length ∧ m ≤ 5 ∧ Below w.heap.size w w' ∧ TrsF (heapF w') B m (tracesT ps) := by
  have HL := Lib.hid hl
  have HLN : Hid (ps.length = n) := Lib.hid hl.1
  have HF := Lib.hid hF
  have HO0 := Lib.hid (Own.nil noF w w.heap.size 27 2)
  clear hl hF
  go_enter Try.func12, Try.ntmps12
  go_wp2_with fail
  go_loopw [3, 4, 5, 8] (fun v3 _ _ v8 wr => ∃ (i : Nat) (Ao : Option Addr) (co : Nat) (xs : List Value), i ≤ n ∧ i ≤ 5 ∧ i ≤ co ∧ v8 = .int .i64 i ∧ v3 = .slice Ao i co ∧ Own noF wr w.heap.size 27 2 (.slice Ao i co) i xs ∧ TrsV (hx wr (Value.slice Ao i co).ownBlock.toList) ((ps.take i).map makeT) xs ∧ Below w.heap.size w wr) (fun _ _ _ v8 _ => n - (intOf v8).toNat)
  case atStart => exact ⟨0, none, 0, [], Nat.zero_le _, by omega, Nat.le_refl _, rfl, rfl, HO0.out, .nil, Below.refl _ _⟩
  case round =>
    obtain ⟨i, Ao, co, xs, hi, hi5, hic, rfl, rfl, hO, hT, hbl⟩ := hrel
    clear HO0
    have HFIN : Hid (∀ k, ps.take k = ps.take i → i = k → (tracesT ps = (ps.take i).map makeT → TrsF (heapF wr) Ao i (tracesT ps))) := Lib.hid (fun k _ _ e => by
      obtain ⟨A9, c9, e9, _, hr9⟩ := hO.rdH
      injection e9 with e91
      subst e91
      rw [e]
      exact (hT.cle (fun a v hc => by
        unfold Fz.cell at hc ⊢
        by_cases ho : a.block ∈ (Value.slice Ao i co).ownBlock.toList
        · rw [hx_in ho] at hc; cases hc
        · rw [hx_out ho] at hc; exact hc)).toF hr9)
    by_cases hlt : i < n
    · have hiI : (i : Int) < (n : Int) := by omega
      have hil : i < ps.length := by rw [HLN.out]; exact hlt
      obtain ⟨ad, rfl, hrow⟩ := HL.out.2 (by omega)
      obtain ⟨h1, h2, h3, An, cn, c0, c1, c2, hr⟩ := hrow i hil
      have hFw : Sat F wr := HF.out.below hbl
      have z0 := hFw.cell c0
      have z1 := hFw.cell c1
      have z2 := hFw.cell c2
      by_cases h5 : i = 5
      · have h5I : ((i : Int) == 5) = true := by rw [h5]; rfl
        have HE : Hid (tracesT ps = (ps.take i).map makeT) := Lib.hid (by rw [h5]; rfl)
        have HLM : Hid (i = (tracesT ps).length) := Lib.hid (by rw [HE.out, List.length_map, List.length_take, HLN.out]; omega)
        have HTF := Lib.hid (HFIN.out i rfl rfl HE.out)
        obtain ⟨s, hs⟩ : ∃ s, ps[i] = s := ⟨_, rfl⟩
        rw [hs] at z0 z1 z2
        obtain ⟨m1, hm1⟩ : ∃ m, s.1 = m := ⟨_, rfl⟩
        obtain ⟨m2, hm2⟩ : ∃ m, s.2.1.length = m := ⟨_, rfl⟩
        obtain ⟨m3, hm3⟩ : ∃ m, s.2.2 = m := ⟨_, rfl⟩
        rw [hm1] at z0
        rw [hm2] at z1
        rw [hm3] at z2
        replace z1 : wr.cell? ⟨(ad.add (i * 3)).block, (ad.add (i * 3)).off + 1, none⟩ = some (.slice An m2 cn) := z1
        replace z2 : wr.cell? ⟨(ad.add (i * 3)).block, (ad.add (i * 3)).off + 2, none⟩ = some (.int .u8 (m3 : Nat)) := z2
        have HBL := Lib.hid hbl
        clear hO hT hFw c0 c1 c2 hr hrow h1 h2 h3 hs hm1 hm2 hm3 hil hbl h5 HFIN
        go_wp2_with fail
        go_ret
        have hbA := balloc wr (.cells #[.int .u64 (m1 : Nat), .slice An m2 cn, .int .u8 (m3 : Nat)] 46)
        exact ⟨Ao, i, co, rfl, HLM.out, by omega, bthen HBL.out hbA, HTF.out.cle (cle_below hbA)⟩
      · have h5I : ((i : Int) == 5) = false := by rw [beq_eq_false_iff_ne]; omega
        have HMK := Lib.hid (fun (X : World) (hX : Sat F X) => make32_w hX ps[i] An cn h1 h2 h3 hr)
        have HTK : Hid ((ps.take (i + 1)).map makeT = (ps.take i).map makeT ++ [makeT ps[i]]) := Lib.hid (by rw [List.take_succ_eq_append_getElem hil, List.map_append]; rfl)
        obtain ⟨t, ht⟩ : ∃ t, makeT ps[i] = t := ⟨_, rfl⟩
        rw [ht] at HTK
        simp only [ht] at HMK
        obtain ⟨m1, hm1⟩ : ∃ m, ps[i].1 = m := ⟨_, rfl⟩
        obtain ⟨m2, hm2⟩ : ∃ m, ps[i].2.1.length = m := ⟨_, rfl⟩
        obtain ⟨m3, hm3⟩ : ∃ m, ps[i].2.2 = m := ⟨_, rfl⟩
        rw [hm1] at z0 HMK
        rw [hm2] at z1 HMK
        rw [hm3] at z2 HMK
        replace z1 : wr.cell? ⟨(ad.add (i * 3)).block, (ad.add (i * 3)).off + 1, none⟩ = some (.slice An m2 cn) := z1
        replace z2 : wr.cell? ⟨(ad.add (i * 3)).block, (ad.add (i * 3)).off + 2, none⟩ = some (.int .u8 (m3 : Nat)) := z2
        have HBL := Lib.hid hbl
        have HFw := Lib.hid hFw
        have HO := Lib.hid hO
        have HT := Lib.hid hT
        have HBA := Lib.hid (balloc wr (.cells #[.int .u64 (m1 : Nat), .slice An m2 cn, .int .u8 (m3 : Nat)] 46))
        have hOl := hO.1.lt
        obtain ⟨K, hK⟩ : ∃ K, t.1.length = K := ⟨_, rfl⟩
        obtain ⟨Q, hQ⟩ : ∃ Q, t.2.length = Q := ⟨_, rfl⟩
        have HKQ : Hid (t.1.length = K ∧ t.2.length = Q) := Lib.hid ⟨hK, hQ⟩
        have HMK2 : Hid (∀ X, Sat F X → Calls Try.prog 16 #[.agg #[.int .u64 (m1 : Nat), .slice An m2 cn, .int .u8 (m3 : Nat)]] X fun e w' => ∃ An cn Ae ce, e = .returned (.agg #[.slice An K cn, .slice Ae Q ce]) ∧ Below X.heap.size X w' ∧ TrsV (frF X.heap.size w') [t] [.slice An K cn, .slice Ae Q ce]) := Lib.hid (fun X hX => (HMK.out X hX).mono fun e w' ⟨An, cn, Ae, ce, q1, q2, q3, q4, q5, q6⟩ => ⟨An, cn, Ae, ce, by rw [q1, hK, hQ], q6, by rw [← hK, ← hQ]; exact .cons _ _ _ _ _ _ _ q2 q3 q4 q5 .nil⟩)
        clear hO hT hFw c0 c1 c2 hr hrow h1 h2 h3 hm1 hm2 hm3 hil hbl ht hK hQ HMK HFIN
        go_wp2_with (first
          | (go_at_call 16; refine (HMK2.out _ (HFw.out.alloc _)).mono ?_; rintro e w1 ⟨Bn, dn, Be, de, rfl, hb1, hT1⟩; have hb01 := bthen HBA.out hb1; have hzb := hb01.size)
          | (at_builtin; refine wpList_of_step (step_pushAll rfl (.tmp 15) (.tmp 18) _ (by rfl) 27 _ 2 48 Try.underlying22 trace_info rfl (by omega) ((HO.out.call hb01).alloc (.cells #[.slice Bn K dn, .slice Be Q de] 27)) (sat_noF _) (by rfl) (some ⟨w1.heap.size, 0, none⟩) 1 1 [.slice Bn K dn, .slice Be Q de] (by rfl) (sat_heapF _) (by
              refine ⟨rfl, fun _ => ⟨_, rfl, fun j u hu => ?_⟩⟩
              rw [add_lit0]
              unfold Fz.cell heapF
              rw [Blk.new w1 27 #[.slice Bn K dn, .slice Be Q de]]
              simpa using hu) (fun u hu => by
                simp at hu
                rcases hu with rfl | rfl <;> rfl) (by simp [maxLen]; omega) (by omega) (by have := HBL.out.size; simp; omega) ?_); intro v6 w6 hO6 hF6 hb6 hg6 hat6; obtain ⟨A6, c6, hv6, hc6⟩ := hO6.shape; subst hv6))
        have hT7 : TrsV (hx w6 (Value.slice A6 (i + 1) c6).ownBlock.toList) ((ps.take (i + 1)).map makeT) (xs ++ [.slice Bn K dn, .slice Be Q de]) := by
          rw [HTK.out]
          have hcA := balloc w1 (.cells #[.slice Bn K dn, .slice Be Q de] 27)
          refine TrsV.append ?_ ?_
          · exact HT.out.cle (fun a v h => hx_grown hg6 hat6 _ _ (hx_call hcA _ _ (hx_call hb01 _ _ h)))
          · refine hT1.cle (fun a v h => hx_grown hg6 hat6 _ _ (hx_call hcA _ _ (fr_hx (fun g hg => ?_) _ _ h)))
            have h1 := (hOl g (by cases ho : (Value.slice Ao i co).ownBlock with
              | none => rw [ho] at hg; simp at hg
              | some q => rw [ho] at hg; simp at hg; rw [hg])).2
            have := HBA.out.size
            omega
        have hb7 : Below w.heap.size w w6 := (bthen HBL.out (bthen hb01 (balloc w1 (.cells #[.slice Bn K dn, .slice Be Q de] 27)))).trans hb6
        clear hF6 hg6 hat6 hb6 hT1 hb1 hb01
        go_wp2_with fail
        go_roundw
        case rel => exact ⟨i + 1, A6, c6, _, by omega, by omega, hc6, by go_num, rfl, hO6, hT7, hb7⟩
        case measure => simp [intOf]; omega
    · obtain rfl : n = i := by omega
      have hdec : decide ((n : Int) < (n : Int)) = false := decide_eq_false (by omega)
      have HE : Hid (tracesT ps = (ps.take n).map makeT) := Lib.hid (by unfold tracesT; rw [List.take_of_length_le (by rw [HLN.out]; omega), List.take_of_length_le (by rw [HLN.out]; omega)])
      have HLM : Hid (n = (tracesT ps).length) := Lib.hid (by rw [HE.out, List.length_map, List.length_take, HLN.out]; omega)
      have HTF := Lib.hid (HFIN.out n rfl rfl HE.out)
      have HBL := Lib.hid hbl
      clear hO hT hbl
      go_wp2_with fail
      go_ret
      exact ⟨Ao, n, co, rfl, HLM.out, hi5, HBL.out, HTF.out⟩
theorem parts_lt {F : Fz} {A : Option Addr} {n : Nat} {ps : List PtS} (h : PartsF F A n ps) : ∀ s ∈ ps, s.2.2 < 256 := fun s hs => by
  obtain ⟨i, hi, rfl⟩ := List.getElem_of_mem hs
  obtain ⟨_, _, hr⟩ := h.2 (by have := h.1; omega)
  exact (hr i hi).2.1
end Go.Proofs.Ytgmbicjcfhmcdaa
