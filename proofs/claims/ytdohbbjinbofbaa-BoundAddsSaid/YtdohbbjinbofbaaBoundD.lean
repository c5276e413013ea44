/- The walk of the law BoundAdds. -/
import Derived.Test.YtdohbbjinbofbaaBoundX
import Derived.Test.YtdohbbjinbofbaaJoin
set_option linter.unusedVariables false
set_option linter.unusedSimpArgs false
namespace Go.Proofs.Ytdohbbjinbofbaa
open Go.RowKit
theorem join_bin {nd : Nd} {a b : Tr} (hv : validT (.bin nd a b) = true) : joinL nd [a.flat 0, b.flat 0] = (Tr.bin nd a b).flat 0 := by
  obtain ⟨x, hx, he⟩ := flat_tree hv
  have h := join_kids hx
  cases x with
  | leaf _ => exact he.elim
  | un _ _ => exact he.elim
  | bin h' a' b' =>
    simp only [kidsT, List.map_cons, List.map_nil] at h
    rw [flat_of_eq he.2.1, flat_of_eq he.2.2] at h
    rw [← h]
    have e : ({ h' with kids := [] } : Nd) = { nd with kids := [] } := he.1
    unfold joinL rawJ rootN
    have e2 : ∀ k, ({ (Tr.bin h' a' b').root with kids := k } : Nd) = { nd with kids := k } := fun k => by
      show ({ h' with kids := k } : Nd) = { nd with kids := k }
      obtain ⟨p1, p2, p3, p4, p5⟩ := h'
      obtain ⟨q1, q2, q3, q4, q5⟩ := nd
      simp only [Nd.mk.injEq, and_true] at e ⊢
      exact e
    simp only [e2]
theorem join_un {nd : Nd} {a : Tr} (hv : validT (.un nd a) = true) : joinL nd [a.flat 0] = (Tr.un nd a).flat 0 := by
  obtain ⟨x, hx, he⟩ := flat_tree hv
  have h := join_kids hx
  cases x with
  | leaf _ => exact he.elim
  | bin _ _ _ => exact he.elim
  | un h' a' =>
    simp only [kidsT, List.map_cons, List.map_nil] at h
    rw [flat_of_eq he.2] at h
    rw [← h]
    have e : ({ h' with kids := [] } : Nd) = { nd with kids := [] } := he.1
    unfold joinL rawJ rootN
    have e2 : ∀ k, ({ (Tr.un h' a').root with kids := k } : Nd) = { nd with kids := k } := fun k => by
      show ({ h' with kids := k } : Nd) = { nd with kids := k }
      obtain ⟨p1, p2, p3, p4, p5⟩ := h'
      obtain ⟨q1, q2, q3, q4, q5⟩ := nd
      simp only [Nd.mk.injEq, and_true] at e ⊢
      exact e
    simp only [e2]
theorem cells_bin (P C : Nat) (nd : Nd) (a b : Tr) : cellsT P C (.bin nd a b) ≤ cellsT P C a + cellsT P C b := by
  have h : (restT a + restT b + max (extraT a) (extraT b)) * (3 + P) ≤ (restT a + extraT a) * (3 + P) + (restT b + extraT b) * (3 + P) := by
    rw [← Nat.add_mul]
    exact Nat.mul_le_mul (by omega) (Nat.le_refl _)
  simp only [cellsT, restT, extraT, stayT, fleetT]
  omega
/-- The node of an And, an Or, a Not as the law writes it. -/
def headN (k : Int) : Nd := ⟨k, ⟨#[]⟩, 0, 0, []⟩
theorem headN_fields {k : Int} {n : Nat} (hk : k = 4 ∨ k = 5 ∨ k = 6) (hn : (n : Int) = arityS k) (ks : List Int) (hl : ks.length = n) : fieldsS { headN k with kids := ks } = true := by
  unfold fieldsS headN
  simp only [hl, hn, decide_true, Bool.and_true]
  rcases hk with rfl | rfl | rfl <;> decide
theorem bin_valid {k : Int} (hk : k = 5 ∨ k = 6) {a b : Tr} (ha : validT a = true) (hb : validT b = true) (ka : a.root.kind < 18) (kb : b.root.kind < 18) : validT (.bin (headN k) a b) = true := by
  have hw : wantsS k = false := by rcases hk with rfl | rfl <;> rfl
  have hr : ∀ x : Int, x < 18 → (regS x == wantsS (headN k).kind) = true := fun x hx => by
    rw [show (headN k).kind = k from rfl, hw]
    simp [regS]
    omega
  simp only [validT, Bool.and_eq_true]
  exact ⟨⟨⟨⟨headN_fields (n := 2) (.inr hk) (by rcases hk with rfl | rfl <;> rfl) [0, 0] rfl, hr _ ka⟩, hr _ kb⟩, ha⟩, hb⟩
theorem not_valid {a : Tr} (ha : validT a = true) (ka : a.root.kind < 18) : validT (.un (headN 4) a) = true := by
  simp only [validT, Bool.and_eq_true]
  refine ⟨⟨headN_fields (n := 1) (.inl rfl) rfl [0] rfl, ?_⟩, ha⟩
  rw [show wantsS (headN 4).kind = false from rfl]
  simp [regS]
  omega
set_option maxRecDepth 100000 in
set_option maxHeartbeats 4000000 in
theorem boundAdds_c {F : Fz} {w : World} (hF : Sat F w) (ns ms : List Nat) (hns : ∀ k ∈ ns, k < 65536) (hms : ∀ k ∈ ms, k < 65536) (B B2 : Option Addr) (m d m2 d2 : Nat) (hr : Rd F 1 B m (ns.map encW)) (hr2 : Rd F 1 B2 m2 (ms.map encW)) (or : Bool) (props room : Int) :
    Calls Try.prog 7 #[.slice B m d, .slice B2 m2 d2, .bool or, .int .i64 props, .int .i64 room] w fun e w' => e = .returned (.bool true) ∧ Below w.heap.size w w' := by
  have HMk := Lib.hid (make_w hF ns hns B m d hr true (makeT true ns) rfl)
  have HMk2 := Lib.hid (fun (X : World) (G : Fz) (h : Sat G X) (hle : CLe F G) => make_w h ms hms B2 m2 d2 (hr2.cle hle) true (makeT true ms) rfl)
  obtain ⟨t, ht, hf, hp, hsz⟩ := made_form ns hns
  obtain ⟨s, hs, hf2, hp2, hsz2⟩ := made_form ms hms
  obtain ⟨la, hla⟩ : ∃ l, (makeT true ns).flat 0 = l := ⟨_, rfl⟩
  obtain ⟨lb, hlb⟩ : ∃ l, (makeT true ms).flat 0 = l := ⟨_, rfl⟩
  rw [hla] at HMk ht hf hp hsz
  rw [hlb] at HMk2 hs hf2 hp2 hsz2
  have hb : (formL la && plainS la) = true := by rw [hf, hp]; rfl
  have hb2 : (formL lb && plainS lb) = true := by rw [hf2, hp2]; rfl
  clear hla hlb hr hr2 hns hms
  obtain ⟨P, hP⟩ : ∃ P : Nat, min (max props 0) 64 = (P : Int) := ⟨(min (max props 0) 64).toNat, by omega⟩
  obtain ⟨C, hC⟩ : ∃ C : Nat, min (max room 1) 4096 = (C : Int) := ⟨(min (max room 1) 4096).toNat, by omega⟩
  have hva := tree_valid ht
  have hvb := tree_valid hs
  have hka := form_root hf ht
  have hkb := form_root hf2 hs
  have hta := tree_flat ht
  have htb := tree_flat hs
  have hca : (kindsT t).any sugarS = false := by
    have := plain_kinds ht
    rw [hp] at this
    simpa using this
  have hcb : (kindsT s).any sugarS = false := by
    have := plain_kinds hs
    rw [hp2] at this
    simpa using this
  obtain ⟨k, hk, hkor⟩ : ∃ k : Int, (k = 5 ∨ k = 6) ∧ k = (if or then 6 else 5) := by cases or <;> exact ⟨_, by simp, rfl⟩
  have hvl := bin_valid (k := k) hk hva hvb hka hkb
  have hvm := not_valid hva hka
  have hkl : (Tr.bin (headN k) t s).root.kind < 18 := by show k < 18; omega
  have hkm : (Tr.un (headN 4) t).root.kind < 18 := by show (4 : Int) < 18; omega
  have hcl : (kindsT (.bin (headN k) t s)).any sugarS = false := by
    simp only [kindsT, List.any_append, hca, hcb, List.any_cons, List.any_nil, Bool.or_false, Bool.false_or]
    rcases hk with rfl | rfl <;> rfl
  have hcm : (kindsT (.un (headN 4) t)).any sugarS = false := by
    simp only [kindsT, List.any_append, hca, List.any_cons, List.any_nil, Bool.or_false, Bool.false_or]
    rfl
  have hjl := join_bin hvl
  have hjm := join_un hvm
  rw [← hta, ← htb] at hjl
  rw [← hta] at hjm
  have hll : ((Tr.bin (headN k) t s).flat 0).length ≤ 1000 := by
    rw [Tr.length_flat]
    have := tree_len ht
    have := tree_len hs
    simp only [Tr.size]
    omega
  have hlm : ((Tr.un (headN 4) t).flat 0).length ≤ 1000 := by
    rw [Tr.length_flat]
    have := tree_len ht
    simp only [Tr.size]
    omega
  have hTa := fun (F1 : Fz) A c hc hN => told (F := F1) la (by omega) A c hc hN props room P C hP hC
  have hTb := fun (F1 : Fz) A c hc hN => told (F := F1) lb (by omega) A c hc hN props room P C hP hC
  have hTl := fun (F1 : Fz) A c hc hN => told (F := F1) _ hll A c hc hN props room P C hP hC
  have hTm := fun (F1 : Fz) A c hc hN => told (F := F1) _ hlm A c hc hN props room P C hP hC
  rw [onT_yes hb ht, onT_yes hb ht, onT_yes hb ht, onT_yes hb ht, onT_yes hb ht] at hTa
  rw [onT_yes hb2 hs, onT_yes hb2 hs, onT_yes hb2 hs, onT_yes hb2 hs, onT_yes hb2 hs] at hTb
  rw [(on_flat restT restT_eq hvl hkl hcl).1, (on_flat extraT extraT_eq hvl hkl hcl).1, (on_flat (cellsT P C) cellsT_eq hvl hkl hcl).1, (on_flat atomsN atomsN_eq hvl hkl hcl).1, (on_flat onceT onceT_eq hvl hkl hcl).1] at hTl
  rw [(on_flat restT restT_eq hvm hkm hcm).1, (on_flat extraT extraT_eq hvm hkm hcm).1, (on_flat (cellsT P C) cellsT_eq hvm hkm hcm).1, (on_flat atomsN atomsN_eq hvm hkm hcm).1, (on_flat onceT onceT_eq hvm hkm hcm).1] at hTm
  have m1 : restT (.un (headN 4) t) = restT t := by simp [restT, headN]
  have m2 : extraT (.un (headN 4) t) = extraT t := by simp [extraT, headN]
  have m3 : cellsT P C (.un (headN 4) t) = cellsT P C t := by simp [cellsT, restT, extraT, stayT, fleetT, headN]
  have m4 : atomsN (.un (headN 4) t) = atomsN t := by simp [atomsN, headN]
  have m5 : onceT (.un (headN 4) t) = onceT t := by simp [onceT, atomsN, backN, headN]
  rw [m1, m2, m3, m4, m5] at hTm
  have l1 : restT (.bin (headN k) t s) = restT t + restT s := rfl
  have l2 : extraT (.bin (headN k) t s) = max (extraT t) (extraT s) := rfl
  have l3 := cells_bin P C (headN k) t s
  have l4 : atomsN (.bin (headN k) t s) = atomsN t + atomsN s := rfl
  have b1 := restT_le t
  have b2 := restT_le s
  have b5 := cellsT_le (P := P) (C := C) (by omega) (by omega) hva (by rw [← tree_len ht]; omega)
  have b6 := cellsT_le (P := P) (C := C) (by omega) (by omega) hvb (by rw [← tree_len hs]; omega)
  have b7 := atomsN_le (by omega) ht
  have b8 := atomsN_le (by omega) hs
  have b9 := tree_len ht
  have b10 := tree_len hs
  generalize restT (.bin (headN k) t s) = RL at *
  generalize extraT (.bin (headN k) t s) = EL at *
  generalize cellsT P C (.bin (headN k) t s) = VL at *
  generalize atomsN (.bin (headN k) t s) = NL at *
  generalize onceT (.bin (headN k) t s) = OL at *
  generalize (Tr.bin (headN k) t s).flat 0 = LL at *
  generalize (Tr.un (headN 4) t).flat 0 = LM at *
  generalize restT t = Ra at *
  generalize extraT t = Ea at *
  generalize cellsT P C t = Va at *
  generalize atomsN t = Na at *
  generalize onceT t = Oa at *
  generalize restT s = Rb at *
  generalize extraT s = Eb at *
  generalize cellsT P C s = Vb at *
  generalize atomsN s = Nb at *
  generalize onceT s = Ob at *
  obtain ⟨VS, hVS⟩ : ∃ VS, Va + Vb = VS := ⟨_, rfl⟩
  have w1 : IntKind.i64.wrap ((Ra : Int) + (Rb : Int)) = (RL : Int) := by rw [show (Ra : Int) + (Rb : Int) = (RL : Int) by omega]; exact wrap_i (by omega) (by omega)
  have w2 : max (Ea : Int) (Eb : Int) = (EL : Int) := by omega
  have w3 : IntKind.i64.wrap ((Na : Int) + (Nb : Int)) = (NL : Int) := by rw [show (Na : Int) + (Nb : Int) = (NL : Int) by omega]; exact wrap_i (by omega) (by omega)
  have w4 : IntKind.u64.wrap ((Va : Int) + (Vb : Int)) = (VS : Int) := by rw [show (Va : Int) + (Vb : Int) = (VS : Int) by omega]; exact wrap_u (by omega) (by omega)
  have w5 : decide (VS < VL) = false := decide_eq_false (by omega)
  obtain ⟨H, hH⟩ : ∃ H, Ra + Ea = H := ⟨_, rfl⟩
  have HTa := Lib.hid hTa
  have HTb := Lib.hid hTb
  have HTl := Lib.hid hTl
  have HTm := Lib.hid hTm
  have HH := Lib.hid hH
  have HJ1 := Lib.hid (fun (X : World) (G : Fz) (h : Sat G X) R hR => hjl ▸ join_w h (headN k) none 0 0 [la, lb] (by simp; omega) (by simp) R 2 2 hR)
  have HJ2 := Lib.hid (fun (X : World) (G : Fz) (h : Sat G X) R hR => hjm ▸ join_w h (headN 4) none 0 0 [la] (by simp; omega) (by simp) R 1 1 hR)
  have HKO := Lib.hid hkor
  dsimp only [headN] at HJ1 HJ2
  clear hTa hTb hTl hTm hH hVS l1 l2 l3 l4 m1 m2 m3 m4 m5 b1 b2 b5 b6 b7 b8 b9 b10 hjl hjm hll hlm hcl hcm hkl hkm hvl hvm hca hcb hta htb hka hkb hva hvb hP hC hb hb2 hf hp hsz hf2 hp2 hsz2 ht hs hk hkor
  go_enter Try.func7, Try.ntmps7
  go_wp2_with fail
  go_at_call 11
  refine HMk.out.mono ?_
  rintro e W1 ⟨A1, c1, F1, rfl, hc1, hN1, hb1, hF1, hle1⟩
  go_wp2_with fail
  go_at_call 11
  refine (HMk2.out _ F1 hF1 hle1.cle).mono ?_
  rintro e W2 ⟨A2, c2, F2, rfl, hc2, hN2, hb2, hF2, hle2⟩
  have hTA := Lib.hid (HTa.out F1 A1 c1 hc1 hN1)
  have hTB := Lib.hid (HTb.out F2 A2 c2 hc2 hN2)
  have hS1 := hF1.below hb2
  have hbW := bthen hb1 hb2
  cases or
  all_goals
    obtain rfl := HKO.out
    simp only [if_true, if_false, Bool.false_eq_true] at HJ1
    go_wp2_with fail
    go_at_call 24
    refine (HJ1.out _ (heapF _) (sat_heapF _) _ ((RowsV.cons la [lb] A1 c1 _ hc1 (hN1.cle (Sat.cle ((hS1.alloc _).alloc _))) (RowsV.one hc2 (hN2.cle (Sat.cle ((hF2.alloc _).alloc _))))).toN (rd_blk (xs := [.slice A1 la.length c1, .slice A2 lb.length c2]) (by simpa using Blk.new2 W2 _ 23 #[.slice A1 la.length c1, .slice A2 lb.length c2])))).mono ?_
    rintro e u ⟨A3, c3, F3, rfl, hc3, hN3, hw3, hF3, _⟩
    have hTL := Lib.hid (HTl.out F3 A3 c3 hc3 hN3)
    have hA' : Sat F1 u := Sat.below ((hS1.alloc _).alloc _) hw3
    have hB' : Sat F2 u := Sat.below ((hF2.alloc _).alloc _) hw3
    have hb' : Below w.heap.size w u := bthen ((hbW.alloc hbW.size _).alloc (Nat.le_trans hbW.size (by simp)) _) hw3
    clear hw3
    go_wp2_with fail
    go_at_call 24
    refine (HJ2.out _ (heapF _) (sat_heapF _) _ ((RowsV.one hc1 (hN1.cle (Sat.cle (hA'.alloc _)))).toN (rd_blk (xs := [.slice A1 la.length c1]) (Blk.new u 23 #[.slice A1 la.length c1])))).mono ?_
    rintro e u0 ⟨A4, c4, F4, rfl, hc4, hN4, hw4, hM0, _⟩
    have hTM := Lib.hid (HTm.out F4 A4 c4 hc4 hN4)
    have hA0 : Sat F1 u0 := Sat.below (hA'.alloc _) hw4
    have hB0 : Sat F2 u0 := Sat.below (hB'.alloc _) hw4
    have hL0 : Sat F3 u0 := Sat.below (hF3.alloc _) hw4
    have hb0 : Below w.heap.size w u0 := bthen (hb'.alloc hb'.size _) hw4
    clear hw4 hA' hB' hF3 hb' hN1 hN2 hN3 hN4 HJ1 HJ2 HTa HTb HTl HTm HMk HMk2
    go_wp2_with fail
    go_at_call 18
    refine (hTL.out.rest _ hL0).mono ?_
    rintro e u1 ⟨rfl, hy1⟩
    have hA1 := hA0.below hy1
    have hB1 := hB0.below hy1
    have hL1 := hL0.below hy1
    have hM1 := hM0.below hy1
    have hb1 := bthen hb0 hy1
    clear hA0 hB0 hL0 hM0 hb0 hy1
    go_wp2_with fail
    go_at_call 18
    refine (hTA.out.rest _ hA1).mono ?_
    rintro e u2 ⟨rfl, hy2⟩
    have hA2 := hA1.below hy2
    have hB2 := hB1.below hy2
    have hL2 := hL1.below hy2
    have hM2 := hM1.below hy2
    have hb2 := bthen hb1 hy2
    clear hA1 hB1 hL1 hM1 hb1 hy2
    go_wp2_with fail
    go_at_call 18
    refine (hTB.out.rest _ hB2).mono ?_
    rintro e u3 ⟨rfl, hy3⟩
    have hA3 := hA2.below hy3
    have hB3 := hB2.below hy3
    have hL3 := hL2.below hy3
    have hM3 := hM2.below hy3
    have hb3 := bthen hb2 hy3
    clear hA2 hB2 hL2 hM2 hb2 hy3
    go_wp2_with fail
    go_at_call 19
    refine (hTL.out.extra _ hL3).mono ?_
    rintro e u4 ⟨rfl, hy4⟩
    have hA4 := hA3.below hy4
    have hB4 := hB3.below hy4
    have hL4 := hL3.below hy4
    have hM4 := hM3.below hy4
    have hb4 := bthen hb3 hy4
    clear hA3 hB3 hL3 hM3 hb3 hy4
    go_wp2_with fail
    go_at_call 19
    refine (hTA.out.extra _ hA4).mono ?_
    rintro e u5 ⟨rfl, hy5⟩
    have hA5 := hA4.below hy5
    have hB5 := hB4.below hy5
    have hL5 := hL4.below hy5
    have hM5 := hM4.below hy5
    have hb5 := bthen hb4 hy5
    clear hA4 hB4 hL4 hM4 hb4 hy5
    go_wp2_with fail
    go_at_call 19
    refine (hTB.out.extra _ hB5).mono ?_
    rintro e u6 ⟨rfl, hy6⟩
    have hA6 := hA5.below hy6
    have hB6 := hB5.below hy6
    have hL6 := hL5.below hy6
    have hM6 := hM5.below hy6
    have hb6 := bthen hb5 hy6
    clear hA5 hB5 hL5 hM5 hb5 hy6
    go_wp2_with fail
    go_at_call 15
    refine (hTL.out.atoms _ hL6).mono ?_
    rintro e u7 ⟨rfl, hy7⟩
    have hA7 := hA6.below hy7
    have hB7 := hB6.below hy7
    have hL7 := hL6.below hy7
    have hM7 := hM6.below hy7
    have hb7 := bthen hb6 hy7
    clear hA6 hB6 hL6 hM6 hb6 hy7
    go_wp2_with fail
    go_at_call 15
    refine (hTA.out.atoms _ hA7).mono ?_
    rintro e u8 ⟨rfl, hy8⟩
    have hA8 := hA7.below hy8
    have hB8 := hB7.below hy8
    have hL8 := hL7.below hy8
    have hM8 := hM7.below hy8
    have hb8 := bthen hb7 hy8
    clear hA7 hB7 hL7 hM7 hb7 hy8
    go_wp2_with fail
    go_at_call 15
    refine (hTB.out.atoms _ hB8).mono ?_
    rintro e u9 ⟨rfl, hy9⟩
    have hA9 := hA8.below hy9
    have hB9 := hB8.below hy9
    have hL9 := hL8.below hy9
    have hM9 := hM8.below hy9
    have hb9 := bthen hb8 hy9
    clear hA8 hB8 hL8 hM8 hb8 hy9
    go_wp2_with fail
    go_at_call 21
    refine (hTL.out.cells _ hL9).mono ?_
    rintro e u10 ⟨rfl, hy10⟩
    have hA10 := hA9.below hy10
    have hB10 := hB9.below hy10
    have hL10 := hL9.below hy10
    have hM10 := hM9.below hy10
    have hb10 := bthen hb9 hy10
    clear hA9 hB9 hL9 hM9 hb9 hy10
    go_wp2_with fail
    go_at_call 21
    refine (hTA.out.cells _ hA10).mono ?_
    rintro e u11 ⟨rfl, hy11⟩
    have hA11 := hA10.below hy11
    have hB11 := hB10.below hy11
    have hL11 := hL10.below hy11
    have hM11 := hM10.below hy11
    have hb11 := bthen hb10 hy11
    clear hA10 hB10 hL10 hM10 hb10 hy11
    go_wp2_with fail
    go_at_call 21
    refine (hTB.out.cells _ hB11).mono ?_
    rintro e u12 ⟨rfl, hy12⟩
    have hA12 := hA11.below hy12
    have hB12 := hB11.below hy12
    have hL12 := hL11.below hy12
    have hM12 := hM11.below hy12
    have hb12 := bthen hb11 hy12
    clear hA11 hB11 hL11 hM11 hb11 hy12
    go_wp2_with fail
    go_at_call 20
    refine (hTM.out.heads _ hM12).mono ?_
    rintro e u13 ⟨rfl, hy13⟩
    have hA13 := hA12.below hy13
    have hB13 := hB12.below hy13
    have hL13 := hL12.below hy13
    have hM13 := hM12.below hy13
    have hb13 := bthen hb12 hy13
    clear hA12 hB12 hL12 hM12 hb12 hy13
    go_wp2_with fail
    go_at_call 20
    refine (hTA.out.heads _ hA13).mono ?_
    rintro e u14 ⟨rfl, hy14⟩
    have hA14 := hA13.below hy14
    have hB14 := hB13.below hy14
    have hL14 := hL13.below hy14
    have hM14 := hM13.below hy14
    have hb14 := bthen hb13 hy14
    clear hA13 hB13 hL13 hM13 hb13 hy14
    go_wp2_with fail
    go_at_call 21
    refine (hTM.out.cells _ hM14).mono ?_
    rintro e u15 ⟨rfl, hy15⟩
    have hA15 := hA14.below hy15
    have hB15 := hB14.below hy15
    have hL15 := hL14.below hy15
    have hM15 := hM14.below hy15
    have hb15 := bthen hb14 hy15
    clear hA14 hB14 hL14 hM14 hb14 hy15
    go_wp2_with fail
    go_at_call 21
    refine (hTA.out.cells _ hA15).mono ?_
    rintro e u16 ⟨rfl, hy16⟩
    have hA16 := hA15.below hy16
    have hB16 := hB15.below hy16
    have hL16 := hL15.below hy16
    have hM16 := hM15.below hy16
    have hb16 := bthen hb15 hy16
    clear hA15 hB15 hL15 hM15 hb15 hy16
    go_wp2_with fail
    go_at_call 16
    refine (hTM.out.once _ hM16).mono ?_
    rintro e u17 ⟨rfl, hy17⟩
    have hA17 := hA16.below hy17
    have hB17 := hB16.below hy17
    have hL17 := hL16.below hy17
    have hM17 := hM16.below hy17
    have hb17 := bthen hb16 hy17
    clear hA16 hB16 hL16 hM16 hb16 hy17
    go_wp2_with fail
    go_at_call 16
    refine (hTA.out.once _ hA17).mono ?_
    rintro e u18 ⟨rfl, hy18⟩
    have hA18 := hA17.below hy18
    have hB18 := hB17.below hy18
    have hL18 := hL17.below hy18
    have hM18 := hM17.below hy18
    have hb18 := bthen hb17 hy18
    clear hA17 hB17 hL17 hM17 hb17 hy18
    go_wp2_with fail
    go_at_call 17
    refine (awake26_w _).mono ?_
    rintro e u19 ⟨rfl, hy19⟩
    go_wp2_with fail
    go_ret
    exact ⟨by simp, bthen hb18 hy19⟩
end Go.Proofs.Ytdohbbjinbofbaa
