/- The walk of MergeParts. -/
import Derived.Test.YtgmbicjcfhmcdaaMade32
set_option linter.unusedVariables false
set_option linter.unusedSimpArgs false
/-! The walk of MergeParts. -/
namespace Go.Proofs.Ytgmbicjcfhmcdaa
open Go.RowKit
attribute [local go_sem ↓] Go.wp_at_zero Go.wp_at_succ
theorem cell_neS {w : World} {g : Nat} {t : TypeId} {A A' : Option Addr} {n n' c c' : Nat} (h : Blk w g t #[.slice A n c, .slice A' n' c']) {p : Addr} {v : Value} (hc : (heapF w).cell p = some v) (hv : ∀ A n c, v ≠ .slice A n c) : p.block ≠ g := by
  intro e
  unfold Fz.cell heapF at hc
  rw [e, h] at hc
  obtain ⟨b, o, x⟩ := p
  cases x with
  | none =>
    have hc : (#[Value.slice A n c, .slice A' n' c'] : Array Value)[o]? = some v := hc
    match o with
    | 0 => injection hc with hc; exact hv _ _ _ hc.symm
    | 1 => injection hc with hc; exact hv _ _ _ hc.symm
    | o + 2 => simp at hc
  | some x => cases hc
theorem hx_cell {w : World} {g : Nat} {p : Addr} {v : Value} (hc : (heapF w).cell p = some v) (h : p.block ≠ g) : (hx w [g]).cell p = some v := by
  unfold Fz.cell at hc ⊢
  rw [hx_out (by simpa using h)]
  exact hc
theorem rd_hxS {w : World} {g : Nat} {t : TypeId} {A A' : Option Addr} {n n' c c' : Nat} (h : Blk w g t #[.slice A n c, .slice A' n' c']) {B : Option Addr} {m : Nat} {xs : List Value} (hr : Rd (heapF w) 1 B m xs) (hx0 : ∀ v ∈ xs, ∀ A n c, v ≠ .slice A n c) : Rd (hx w [g]) 1 B m xs := by
  refine ⟨hr.1, fun h0 => ?_⟩
  obtain ⟨ad, e, hc⟩ := hr.2 h0
  refine ⟨ad, e, fun j u hu => ?_⟩
  have := hc j u hu
  exact hx_cell this (cell_neS h this (hx0 u (List.mem_of_getElem? hu)))
theorem evs_hxS {w : World} {g : Nat} {t : TypeId} {A A' : Option Addr} {n n' c c' : Nat} (h : Blk w g t #[.slice A n c, .slice A' n' c']) {B : Option Addr} {m : Nat} {es : List Evt} (hr : EvsF (heapF w) B m es) : EvsF (hx w [g]) B m es := by
  refine ⟨hr.1, fun h0 => ?_⟩
  obtain ⟨ad, e, hc⟩ := hr.2 h0
  refine ⟨ad, e, fun i hi => ?_⟩
  obtain ⟨h1, Ai, ci, h2, h3, h4, h5⟩ := hc i hi
  have hne := cell_neS h h4 (fun A n c e => by cases e)
  rw [block_of_add] at hne
  exact ⟨h1, Ai, ci, h2, rd_hxS h h3 (fun v hv A n c e => by obtain ⟨z, _, rfl⟩ := List.mem_map.1 hv; cases e), hx_cell h4 (by rw [block_of_add]; exact hne), hx_cell h5 (by rw [block_of_add, block_of_add]; exact hne)⟩
theorem names_noS (ss : List ByteArray) : ∀ v ∈ ss.map Value.string, ∀ A n c, v ≠ Value.slice A n c := fun v hv A n c e => by
  obtain ⟨z, _, rfl⟩ := List.mem_map.1 hv
  cases e
/-- Merge of traces that may be. -/
theorem mg32 {F : Fz} (ls : List TrS) (A : Option Addr) (n c : Nat) (hl : TrsF F A n ls) (hn : n ≤ 20) (hb : ∀ t ∈ ls, t.1.length ≤ 100 ∧ t.2.length ≤ 1000 ∧ ∀ e ∈ t.2, e.ids.length ≤ 1000) (hm : mayAll ls = true) (h64 : (namesT ls).length ≤ 64) {T : TrS} (hT : mergeT ls = T) {nU nV : Nat} (h4 : T.1.length = nU) (h5 : T.2.length = nV) (X : World) (hX : Sat F X) :
    Calls Try.prog 9 #[.slice A n c] X (RetBo X T.1 T.2 nU nV 0) := by
  have hM : mergeM ls = (T, 0) := by unfold mergeM; rw [hm, if_pos rfl, if_neg (by omega), hT]
  exact (both32 ls A n c hl hn hb (by rw [hM]) (by rw [hM]) (by rw [hM]) h4 h5 X hX).1
theorem mayAll_take {ls : List TrS} (h : mayAll ls = true) (i : Nat) : mayAll (ls.take i) = true := by
  unfold mayAll at h ⊢
  rw [List.all_eq_true] at h ⊢
  exact fun t ht => h t (List.mem_of_mem_take ht)
theorem namesT_take (ls : List TrS) (hl : ls.length ≤ 5) (h : ∀ t ∈ ls, t.1.length = 3) (i : Nat) : (namesT (ls.take i)).length ≤ 15 := by
  have h1 := namesT_len (ls.take i) 3 fun t ht => Nat.le_of_eq (h t (List.mem_of_mem_take ht))
  have h2 : (ls.take i).length ≤ 5 := by rw [List.length_take]; omega
  have h3 : (ls.take i).length * 3 ≤ 5 * 3 := Nat.mul_le_mul_right _ h2
  omega
theorem mergeT_take (ls : List TrS) (hl : ls.length ≤ 5) (h : ∀ t ∈ ls, t.2.length ≤ 60) (i : Nat) : (mergeT (ls.take i)).2.length ≤ 300 := by
  have h1 := mergeT_len (ls.take i) 60 fun t ht => h t (List.mem_of_mem_take ht)
  have h2 : (ls.take i).length ≤ 5 := by rw [List.length_take]; omega
  have h3 : (ls.take i).length * 60 ≤ 5 * 60 := Nat.mul_le_mul_right _ h2
  omega
theorem mergeT_ids (ls : List TrS) : ∀ e ∈ (mergeT ls).2, e.ids.length ≤ (namesT ls).length := fun e he => by
  obtain ⟨p, _, rfl⟩ := List.mem_map.1 he
  exact mvR_len _ _ _
theorem mergeT_zero (ls : List TrS) : mergeT (ls.take 0) = ([], []) := by rw [List.take_zero]; rfl
set_option maxRecDepth 100000 in
set_option maxHeartbeats 8000000 in
theorem parts32_c {F : Fz} {w : World} (hF : Sat F w) (ps : List PtS) (A : Option Addr) (n c : Nat) (hl : PartsF F A n ps) (s : PtS) (As : Option Addr) (cs : Nat) (h1 : s.1 < 18446744073709551616) (h2 : s.2.2 < 256) (h3 : ∀ k ∈ s.2.1, k < 65536) (hr : Rd F 1 As s.2.1.length (s.2.1.map enc16)) :
    Calls Try.prog 6 #[.slice A n c, .agg #[.int .u64 (s.1 : Nat), .slice As s.2.1.length cs, .int .u8 (s.2.2 : Nat)]] w fun e w' => e = .returned (.bool true) ∧ Below w.heap.size w w' := by
  have HAW := Lib.hid (fun (X : World) => awake32_w X)
  have HTR := Lib.hid (fun (X : World) (hX : Sat F X) => traces32_w hX ps A n c hl)
  have hpl := parts_lt hl
  have hmay := tracesT_may hpl
  have hls5 := (tracesT_len ps).1
  have hl3 : ∀ t ∈ tracesT ps, t.1.length = 3 ∧ t.2.length ≤ 60 ∧ ∀ e ∈ t.2, e.ids.length ≤ 3 := fun t ht => by
    obtain ⟨q, _, rfl⟩ := List.mem_map.1 ht
    exact makeT_len q
  have htm := makeT_may h2
  have htl := makeT_len s
  have HMK := Lib.hid (fun (X : World) (hX : Sat F X) => make32_w hX s As cs h1 h2 h3 hr)
  obtain ⟨ls, hls⟩ : ∃ ls, tracesT ps = ls := ⟨_, rfl⟩
  simp only [hls] at hmay hls5 hl3 HTR
  obtain ⟨t, ht⟩ : ∃ t, makeT s = t := ⟨_, rfl⟩
  simp only [ht] at htm htl HMK
  obtain ⟨m1, hm1⟩ : ∃ m, s.1 = m := ⟨_, rfl⟩
  obtain ⟨m2, hm2⟩ : ∃ m, s.2.1.length = m := ⟨_, rfl⟩
  obtain ⟨m3, hm3⟩ : ∃ m, s.2.2 = m := ⟨_, rfl⟩
  rw [hm1, hm2, hm3] at HMK
  rw [hm1, hm2, hm3]
  obtain ⟨K, hK⟩ : ∃ K, t.1.length = K := ⟨_, rfl⟩
  obtain ⟨Q, hQ⟩ : ∃ Q, t.2.length = Q := ⟨_, rfl⟩
  obtain ⟨T, hT⟩ : ∃ T, mergeT ls = T := ⟨_, rfl⟩
  obtain ⟨nU, hnU⟩ : ∃ nU, T.1.length = nU := ⟨_, rfl⟩
  obtain ⟨nV, hnV⟩ : ∃ nV, T.2.length = nV := ⟨_, rfl⟩
  have hb : ∀ t ∈ ls, t.1.length ≤ 100 ∧ t.2.length ≤ 1000 ∧ ∀ e ∈ t.2, e.ids.length ≤ 1000 := fun t ht => by
    obtain ⟨q1, q2, q3⟩ := hl3 t ht
    exact ⟨by omega, by omega, fun e he => by have := q3 e he; omega⟩
  have h64 : ∀ i, (namesT (ls.take i)).length ≤ 15 := namesT_take ls hls5 fun t ht => (hl3 t ht).1
  have h64' : (namesT ls).length ≤ 15 := by have := h64 ls.length; rwa [List.take_length] at this
  have h300 : ∀ i, (mergeT (ls.take i)).2.length ≤ 300 := mergeT_take ls hls5 fun t ht => (hl3 t ht).2.1
  have hTl : nU ≤ 15 ∧ nV ≤ 300 ∧ ∀ e ∈ T.2, e.ids.length ≤ 64 := by
    have q1 := h300 ls.length
    rw [List.take_length, hT] at q1
    refine ⟨by rw [← hnU, ← hT]; exact h64', by omega, fun e he => ?_⟩
    rw [← hT] at he
    have := mergeT_ids ls e he
    omega
  have HWH := Lib.hid (fun (F : Fz) (A : Option Addr) (n c : Nat) (hl : TrsF F A n ls) (hn : n ≤ 20) => mg32 ls A n c hl hn hb hmay (by omega) hT hnU hnV)
  have HNO := Lib.hid (fun (X : World) => mg32 (F := heapF X) [] none 0 0 ⟨rfl, fun h => absurd h (by omega)⟩ (by omega) (fun t ht => by cases ht) rfl (by decide) (T := ([], [])) rfl (nU := 0) (nV := 0) rfl rfl X (sat_heapF X))
  have hm1t := merge_one htm
  have HONE := Lib.hid (fun (F : Fz) (A : Option Addr) (n c : Nat) (hl : TrsF F A n [t]) (hn : n ≤ 20) => mg32 [t] A n c hl hn (fun u hu => by simp at hu; subst hu; exact ⟨by omega, by omega, fun e he => by have := htl.2.2 e he; omega⟩) (by unfold mayAll; simp [htm]) (by have := namesT_len [t] 3 (fun u hu => by simp at hu; subst hu; omega); simp at this; omega) hm1t hK hQ)
  have HKQ : Hid (t.1.length = K ∧ t.2.length = Q ∧ K ≤ 3 ∧ Q ≤ 60 ∧ ∀ e ∈ t.2, e.ids.length ≤ 64) := Lib.hid ⟨hK, hQ, by omega, by omega, fun e he => by have := htl.2.2 e he; omega⟩
  have HTT : Hid (T.1.length = nU ∧ T.2.length = nV ∧ nU ≤ 15 ∧ nV ≤ 300 ∧ (∀ e ∈ T.2, e.ids.length ≤ 64) ∧ mergeT ls = T) := Lib.hid ⟨hnU, hnV, hTl.1, hTl.2.1, hTl.2.2, hT⟩
  have HLS : Hid (mayAll ls = true ∧ ls.length ≤ 5 ∧ (∀ t ∈ ls, t.1.length = 3 ∧ t.2.length ≤ 60 ∧ ∀ e ∈ t.2, e.ids.length ≤ 3) ∧ (∀ i, (namesT (ls.take i)).length ≤ 15) ∧ ∀ i, (mergeT (ls.take i)).2.length ≤ 300) := Lib.hid ⟨hmay, hls5, hl3, h64, h300⟩
  have HMK2 : Hid (∀ X, Sat F X → Calls Try.prog 16 #[.agg #[.int .u64 (m1 : Nat), .slice As m2 cs, .int .u8 (m3 : Nat)]] X fun e w' => ∃ An cn Ae ce, e = .returned (.agg #[.slice An K cn, .slice Ae Q ce]) ∧ Below X.heap.size X w' ∧ K ≤ cn ∧ Q ≤ ce ∧ Rd (heapF w') 1 An K (t.1.map Value.string) ∧ EvsF (heapF w') Ae Q t.2) := Lib.hid (fun X hX => (HMK.out X hX).mono fun e w' ⟨An, cn, Ae, ce, q1, q2, q3, q4, q5, q6⟩ => ⟨An, cn, Ae, ce, by rw [q1, hK, hQ], q6, by omega, by omega, by rw [← hK]; exact q4.cle fr_heap, by rw [← hQ]; exact q5.cle fr_heap⟩)
  have HF := Lib.hid hF
  have hnU15 := hTl.1
  have hnV3 := hTl.2.1
  clear hpl hmay hls5 hl3 htm htl HMK hls ht hm1 hm2 hm3 hK hQ hT hnU hnV hb h64 h64' h300 hTl hm1t hF hl h1 h2 h3 hr
  go_enter Try.func6, Try.ntmps6
  have HB0 := Lib.hid (balloc w (.cells #[.int .u64 (m1 : Nat), .slice As m2 cs, .int .u8 (m3 : Nat)] 46))
  have HP0 := Lib.hid (Blk.new w 46 #[.int .u64 (m1 : Nat), .slice As m2 cs, .int .u8 (m3 : Nat)])
  go_wp2_with (first
    | (go_at_call 11; refine HST.out.mono ?_; rintro e w5 ⟨rfl, hb5⟩)
    | (have q3 := HMK3; go_at_call 9; refine (HONE.out _ (some ⟨w3.heap.size + 1, 0, none⟩) 1 1 HTR3.out (by omega) _ (sat_heapF _)).mono ?_; rintro e w4 ⟨En, en, Ee, ee, rfl, hen, hee, hb4, hrn4, hev4⟩; have hb34 := bthen HB3.out hb4; have hG8 := (HG8.out.call HB23.out).call hb34; have hG10 := HG10.out.call hb4; obtain ⟨k0, k1, _, _⟩ := blk2E hG8; obtain ⟨l0, l1, _, _⟩ := blk2E hG10; have hk8 := hG8.lt; have hk10 := hG10.lt; have hbX := balloc w4 (.cells #[.slice En K en, .slice Ee Q ee] 27); have HST := Lib.hid (sameT_true (cn := en) (ce := ee) (dn := cn3) (de := ce3) HKQ.out.1 HKQ.out.2.1 (by have := HKQ.out.2.2.1; omega) (by have := HKQ.out.2.2.2.1; omega) HKQ.out.2.2.2.2 (rd_call hrn4 hbX) (hev4.cle (cle_below hbX)) (rd_call (rd_call HMK3.out.1 hb34) hbX) ((HMK3.out.2.cle (cle_below hb34)).cle (cle_below hbX))); have HB4 := Lib.hid (bthen hb34 hbX))
    | (have q2 := HB2; go_at_call 16; refine (HMK2.out _ (HF.out.below HB2.out)).mono ?_; rintro e w3 ⟨An3, cn3, Ae3, ce3, rfl, hb3, hcn3, hce3, hrn3, hev3⟩; have HMK3 := Lib.hid (And.intro hrn3 hev3); have HG10 : Hid (Blk ((w3.alloc (.cells #[.slice An3 K cn3, .slice Ae3 Q ce3] 27)).alloc (.cells #[.slice An3 K cn3, .slice Ae3 Q ce3] 27)) w3.heap.size 27 #[.slice An3 K cn3, .slice Ae3 Q ce3]) := Lib.hid ((Blk.new _ _ _).alloc _); have HB3 : Hid (Below w3.heap.size w3 ((w3.alloc (.cells #[.slice An3 K cn3, .slice Ae3 Q ce3] 27)).alloc (.cells #[.slice An3 K cn3, .slice Ae3 Q ce3] 27))) := Lib.hid ((balloc _ _).alloc (by simp) _); have HB23 := Lib.hid hb3; have HTR3 : Hid (TrsF (heapF ((w3.alloc (.cells #[.slice An3 K cn3, .slice Ae3 Q ce3] 27)).alloc (.cells #[.slice An3 K cn3, .slice Ae3 Q ce3] 27))) (some ⟨w3.heap.size + 1, 0, none⟩) 1 [t]) := Lib.hid (trs_blk (xs := [.slice An3 K cn3, .slice Ae3 Q ce3]) (Blk.new2 _ _ _ _) (by
        have q := TrsV.cons (F := heapF ((w3.alloc (.cells #[.slice An3 K cn3, .slice Ae3 Q ce3] 27)).alloc (.cells #[.slice An3 K cn3, .slice Ae3 Q ce3] 27))) t [] An3 cn3 Ae3 ce3 [] (by rw [HKQ.out.1]; exact hcn3) (by rw [HKQ.out.2.1]; exact hce3) (by rw [HKQ.out.1]; exact rd_call hrn3 HB3.out) (by rw [HKQ.out.2.1]; exact hev3.cle (cle_below HB3.out)) .nil
        rw [HKQ.out.1, HKQ.out.2.1] at q
        exact q) rfl))
    | (have q1 := HB1; go_at_call 9; refine (HNO.out _).mono ?_; rintro e w2 ⟨Bn, dn, Be, de, rfl, hdn, hde, hb2, hrn2, hev2⟩; have HB2 := Lib.hid (bthen HB1.out (bthen hb2 (balloc w2 (.cells #[.slice Bn 0 dn, .slice Be 0 de] 27)))); have HB12 := Lib.hid (bthen hb2 (balloc w2 (.cells #[.slice Bn 0 dn, .slice Be 0 de] 27))); have HG8 := Lib.hid (Blk.new w2 27 #[.slice Bn 0 dn, .slice Be 0 de]); have hP2 := (HP1.out.call HB01.out).call hb2; have p0 : w2.cell? ⟨w.heap.size, 0, none⟩ = some (.int .u64 (m1 : Nat)) := (by rw [hP2.cell]; rfl); have p1 : w2.cell? ⟨w.heap.size, 1, none⟩ = some (.slice As m2 cs) := (by rw [hP2.cell]; rfl); have p2 : w2.cell? ⟨w.heap.size, 2, none⟩ = some (.int .u8 (m3 : Nat)) := (by rw [hP2.cell]; rfl); have hp2l := hP2.lt)
    | (go_at_call 9; refine (HWH.out _ B m d HT0.out (by omega) w0 (sat_heapF w0)).mono ?_; rintro e w1 ⟨An, cn, Ae, ce, rfl, hcn, hce, hb1, hrn, hev⟩; have HRW := Lib.hid (And.intro hrn hev); have HG6 := Lib.hid (Blk.new w1 27 #[.slice An nU cn, .slice Ae nV ce]); have HB01 := Lib.hid (bthen hb1 (balloc w1 (.cells #[.slice An nU cn, .slice Ae nV ce] 27))); have HB1 := Lib.hid (bthen HB00.out HB01.out))
    | (go_at_call 12; refine (HTR.out _ (HF.out.below HB0.out)).mono ?_; rintro e w0 ⟨B, m, d, rfl, hm, hm5, hb0, hT0⟩; have HT0 := Lib.hid hT0; have HM := Lib.hid hm; have HB00 := Lib.hid (bthen HB0.out hb0); have HP1 := Lib.hid (HP0.out.call hb0); clear hm hT0))
  have hb05 : Below w0.heap.size w0 w5 := bthen HB01.out (bthen HB12.out (bthen HB23.out (bthen HB4.out hb5)))
  have hb15 := bthen HB12.out (bthen HB23.out (bthen HB4.out hb5))
  have HT5 : Hid (TrsF (heapF w5) B m ls) := Lib.hid (HT0.out.cle (cle_below hb05))
  have HG65 := Lib.hid (HG6.out.call hb15)
  have HRW5 : Hid (Rd (heapF w5) 1 An nU (T.1.map Value.string) ∧ EvsF (heapF w5) Ae nV T.2) := Lib.hid ⟨rd_call (rd_call HRW.out.1 (balloc w1 _)) hb15, (HRW.out.2.cle (cle_below (balloc w1 _))).cle (cle_below hb15)⟩
  have HW5 : Hid (Below w.heap.size w w5) := Lib.hid (bthen HB00.out hb05)
  have HG13 := Lib.hid (Blk.new w5 27 #[.slice none 0 0, .slice none 0 0])
  have HLN : Hid (ls.length = m) := Lib.hid HT5.out.1
  have hg6l : w1.heap.size < w5.heap.size := HG65.out.lt
  obtain ⟨g, hg⟩ : ∃ g, w5.heap.size = g := ⟨_, rfl⟩
  have HGE := Lib.hid hg
  rw [hg] at HG13 hg6l
  rw [hg]
  clear hb05 hb15 HT0 HG6 HRW HB00 HB01 HB12 HB23 HB4 hb5 HMK3 HTR3 HG10 HG8 HB3 hG8 hG10 hk8 hk10 hbX HST hb34 hrn4 hev4 hb4 HB1 HB2 hP2 p0 p1 p2 hp2l hrn hev hrn2 hev2 hrn3 hev3 hb1 hb2 hb3 k0 k1 l0 l1 hg HP1 HP0 HB0 HWH HNO HONE HMK2 HTR HM hb0
  go_loopw [15, 16, 17, 68] (fun _ _ _ v68 wr => ∃ (i nu nv : Nat) (Bn : Option Addr) (dn : Nat) (Be : Option Addr) (de : Nat), i ≤ m ∧ v68 = .int .i64 i ∧ Hid ((mergeT (ls.take i)).1.length = nu ∧ (mergeT (ls.take i)).2.length = nv) ∧ nu ≤ dn ∧ nv ≤ de ∧ Blk wr g 27 #[.slice Bn nu dn, .slice Be nv de] ∧ Hid (Rd (hx wr [g]) 1 Bn nu ((mergeT (ls.take i)).1.map Value.string) ∧ EvsF (hx wr [g]) Be nv (mergeT (ls.take i)).2) ∧ Below g w5 wr) (fun _ _ _ v68 _ => m - (intOf v68).toNat)
  case atStart => exact ⟨0, 0, 0, none, 0, none, 0, Nat.zero_le _, rfl, Lib.hid ⟨by rw [mergeT_zero]; rfl, by rw [mergeT_zero]; rfl⟩, Nat.le_refl _, Nat.le_refl _, HG13.out, Lib.hid ⟨by rw [mergeT_zero]; exact Rd.nil, by rw [mergeT_zero]; exact ⟨rfl, fun h => absurd h (by omega)⟩⟩, by rw [← HGE.out]; exact balloc _ _⟩
  case round =>
    clear HG13
    obtain ⟨i, nu, nv, Fn, fn, Fe, fe, hi, rfl, HNN, hfn, hfe, hG, HRR, hbl⟩ := hrel
    by_cases hlt : i < m
    · have hiI : (i : Int) < (m : Int) := by omega
      have hil : i < ls.length := by rw [HLN.out]; exact hlt
      obtain ⟨ad, rfl, hrow⟩ := HT5.out.2 (by omega)
      obtain ⟨Xn, xn, Xe, xe, hxn, hxe, c0, c1, hxr, hxv⟩ := hrow i hil
      have hFw : Sat (heapF w5) wr := (sat_heapF w5).below (by rw [HGE.out]; exact hbl)
      have z0 := hFw.cell c0
      have z1 := hFw.cell c1
      obtain ⟨l1, l2, l3, l4, l5⟩ := HLS.out
      obtain ⟨x1, x2, x3⟩ := l3 _ (List.getElem_mem hil)
      have hmx : mayT ls[i].1 ls[i].2 = true := by
        unfold mayAll at l1
        exact List.all_eq_true.1 l1 _ (List.getElem_mem hil)
      have htwo := merge_two (mayAll_take l1 i) hmx
      rw [← List.take_succ_eq_append_getElem hil] at htwo
      have hmi := merge_may (mayAll_take l1 i) (by have := l4 i; omega)
      have hn64 : (namesT [mergeT (ls.take i), ls[i]]).length ≤ 64 := by
        have h1 : (mergeT [mergeT (ls.take i), ls[i]]).1 = (mergeT (ls.take (i + 1))).1 := by rw [htwo]
        have h2 : (namesT [mergeT (ls.take i), ls[i]]) = namesT (ls.take (i + 1)) := h1
        rw [h2]
        have := l4 (i + 1)
        omega
      obtain ⟨nu', hnu'⟩ : ∃ k, (mergeT (ls.take (i + 1))).1.length = k := ⟨_, rfl⟩
      obtain ⟨nv', hnv'⟩ : ∃ k, (mergeT (ls.take (i + 1))).2.length = k := ⟨_, rfl⟩
      have HNN' : Hid ((mergeT (ls.take (i + 1))).1.length = nu' ∧ (mergeT (ls.take (i + 1))).2.length = nv') := Lib.hid ⟨hnu', hnv'⟩
      have HMG := Lib.hid (fun (F : Fz) (A : Option Addr) (c : Nat) (hl : TrsF F A 2 [mergeT (ls.take i), ls[i]]) => mg32 [mergeT (ls.take i), ls[i]] A 2 c hl (by omega) (fun u hu => by
        simp at hu
        rcases hu with rfl | rfl
        · refine ⟨by have := l4 i; show (namesT (ls.take i)).length ≤ 100; omega, by have := l5 i; omega, fun e he => by have h1 := mergeT_ids (ls.take i) e he; have := l4 i; omega⟩
        · exact ⟨by omega, by omega, fun e he => by have := x3 e he; omega⟩) (by unfold mayAll; simp [hmx, hmi]) hn64 htwo hnu' hnv')
      obtain ⟨x, hxE⟩ : ∃ x, ls[i] = x := ⟨_, rfl⟩
      simp only [hxE] at z0 z1 hxr hxv hxn hxe HMG
      obtain ⟨K', hK'⟩ : ∃ k, x.1.length = k := ⟨_, rfl⟩
      obtain ⟨Q', hQ'⟩ : ∃ k, x.2.length = k := ⟨_, rfl⟩
      obtain ⟨Mi, hMi⟩ : ∃ M, mergeT (ls.take i) = M := ⟨_, rfl⟩
      rw [hMi] at HNN HRR HMG
      have hbA := balloc wr (.cells #[.slice Xn x.1.length xn, .slice Xe x.2.length xe] 27)
      have hbB : Below wr.heap.size wr ((wr.alloc (.cells #[.slice Xn x.1.length xn, .slice Xe x.2.length xe] 27)).alloc (.cells #[.slice Fn nu fn, .slice Fe nv fe, .slice Xn x.1.length xn, .slice Xe x.2.length xe] 27)) := hbA.alloc (by simp) _
      have hTR : TrsF (heapF ((wr.alloc (.cells #[.slice Xn x.1.length xn, .slice Xe x.2.length xe] 27)).alloc (.cells #[.slice Fn nu fn, .slice Fe nv fe, .slice Xn x.1.length xn, .slice Xe x.2.length xe] 27))) (some ⟨wr.heap.size + 1, 0, none⟩) 2 [Mi, x] :=
        trs_blk (xs := [.slice Fn nu fn, .slice Fe nv fe, .slice Xn x.1.length xn, .slice Xe x.2.length xe]) (Blk.new2 _ _ _ _) (by
          have hq := (TrsV.nil (F := heapF ((wr.alloc (.cells #[.slice Xn x.1.length xn, .slice Xe x.2.length xe] 27)).alloc (.cells #[.slice Fn nu fn, .slice Fe nv fe, .slice Xn x.1.length xn, .slice Xe x.2.length xe] 27))))
          have hq2 := TrsV.cons x [] Xn xn Xe xe _ hxn hxe ((hxr.heap hFw).heap ((sat_heapF wr).below hbB)) ((hxv.cle hFw.cle).cle (cle_below hbB)) hq
          have hs : CLe (hx wr [g]) (heapF ((wr.alloc (.cells #[.slice Xn x.1.length xn, .slice Xe x.2.length xe] 27)).alloc (.cells #[.slice Fn nu fn, .slice Fe nv fe, .slice Xn x.1.length xn, .slice Xe x.2.length xe] 27))) := ((sat_hx wr [g]).below hbB).cle
          have hq3 := TrsV.cons Mi [x] Fn fn Fe fe _ (by rw [HNN.out.1]; exact hfn) (by rw [HNN.out.2]; exact hfe) (by rw [HNN.out.1]; exact HRR.out.1.cle hs) (by rw [HNN.out.2]; exact HRR.out.2.cle hs) hq2
          rw [HNN.out.1, HNN.out.2] at hq3
          exact hq3) rfl
      rw [hK', hQ'] at hTR hbA hbB
      rw [hK'] at z0
      rw [hQ'] at z1
      replace z1 : wr.cell? ⟨(ad.add (i * 2)).block, (ad.add (i * 2)).off + 1, none⟩ = some (.slice Xe Q' xe) := z1
      have HTRx := Lib.hid hTR
      have HBB := Lib.hid hbB
      obtain ⟨g0, g1, f0, f1⟩ := blk2E hG
      have hgl := hG.lt
      have HG := Lib.hid hG
      have HBL := Lib.hid hbl
      clear hrow c0 c1 hxr hxv hFw l1 l2 l3 l4 l5 x1 x2 x3 hmx htwo hmi hn64 hnu' hnv' hxE hK' hQ' hMi hbA hbB hTR hG hbl hil
      go_wp2_with (go_at_call 9; refine (HMG.out _ _ 2 HTRx.out _ (sat_heapF _)).mono ?_; rintro e w6 ⟨Gn, gn, Ge, ge, rfl, hgn, hge, hb6, hrn6, hev6⟩; have hbr6 := bthen HBB.out hb6; have hG6 := HG.out.call hbr6; obtain ⟨n0, n1, n2, n3⟩ := blk2E hG6; have hgl6 := hG6.lt)
      have hG7 : Blk (((w6.setCell ⟨g, 0, none⟩ (.slice Gn nu' gn)).setCell ⟨g, 1, none⟩ (.slice Ge nv' ge)).alloc (.cells #[.slice Gn nu' gn, .slice Ge nv' ge] 27)) g 27 #[.slice Gn nu' gn, .slice Ge nv' ge] := ((hG6.set_ 0 (.slice Gn nu' gn)).set_ 1 (.slice Ge nv' ge)).alloc _
      have hW7 : Wr [g] w6 (((w6.setCell ⟨g, 0, none⟩ (.slice Gn nu' gn)).setCell ⟨g, 1, none⟩ (.slice Ge nv' ge)).alloc (.cells #[.slice Gn nu' gn, .slice Ge nv' ge] 27)) := (((Wr.refl _ _).set (by simp) 0 _).set (by simp) 1 _).alloc _
      have HR7 := Lib.hid (And.intro ((rd_hxS hG6 hrn6 (names_noS _)).cle hW7.cle) ((evs_hxS hG6 hev6).cle hW7.cle))
      have hb7 : Below g w5 (((w6.setCell ⟨g, 0, none⟩ (.slice Gn nu' gn)).setCell ⟨g, 1, none⟩ (.slice Ge nv' ge)).alloc (.cells #[.slice Gn nu' gn, .slice Ge nv' ge] 27)) := (HBL.out.trans (hbr6.mono (by omega))).trans (hW7.below (fun q hq => by simp at hq; omega) (by omega))
      clear hrn6 hev6 hb6 hG6 hbr6 hW7
      go_roundw
      case rel => exact ⟨i + 1, nu', nv', Gn, gn, Ge, ge, by omega, by go_num, HNN', hgn, hge, hG7, HR7, hb7⟩
      case measure => simp [intOf]; omega
    · obtain rfl : m = i := by omega
      have hdec : decide ((m : Int) < (m : Int)) = false := decide_eq_false (by omega)
      have hta : ls.take m = ls := by rw [← HLN.out, List.take_length]
      obtain ⟨t1, t2, t3, t4, t5, t6⟩ := HTT.out
      rw [hta, t6] at HNN HRR
      obtain rfl : nu = nU := HNN.out.1.symm.trans t1
      obtain rfl : nv = nV := HNN.out.2.symm.trans t2
      have hbl5 : Below w5.heap.size w5 wr := by rw [HGE.out]; exact hbl
      have hs : CLe (hx wr [g]) (heapF wr) := (sat_hx wr [g]).cle
      have HST := Lib.hid (sameT_true (cn := fn) (ce := fe) (dn := cn) (de := ce) t1 t2 (by omega) (by omega) t5 (HRR.out.1.cle hs) (HRR.out.2.cle hs) (rd_call HRW5.out.1 hbl5) (HRW5.out.2.cle (cle_below hbl5)))
      obtain ⟨g0, g1, f0, f1⟩ := blk2E hG
      obtain ⟨k0, k1, k2, k3⟩ := blk2E (HG65.out.call hbl5)
      have HFIN := Lib.hid (bthen HW5.out hbl5)
      clear hta t1 t2 t3 t4 t5 t6 hbl hbl5 hs hG
      go_wp2_with (first
        | (go_at_call 11; refine HST.out.mono ?_; rintro e w7 ⟨rfl, hb7⟩)
        | (go_at_call 8; refine (HAW.out _).mono ?_; rintro e w8 ⟨rfl, hb8⟩))
      go_ret
      exact ⟨rfl, bthen HFIN.out (bthen hb7 hb8)⟩
end Go.Proofs.Ytgmbicjcfhmcdaa
