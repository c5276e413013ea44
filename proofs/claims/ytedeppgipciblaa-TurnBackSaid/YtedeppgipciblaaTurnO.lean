/- The walks of turn.order and turn.Order, slices.BinarySearch on numbers, slices.Reverse. -/
import Derived.Test.YtedeppgipciblaaTurnS
import Derived.Test.YtedeppgipciblaaLayB
import Derived.Test.YtedeppgipciblaaWords
import Derived.Test.YtedeppgipciblaaRPaths
import Derived.Test.YtedeppgipciblaaRReach
set_option linter.unusedVariables false
set_option linter.unusedSimpArgs false
/-! The walks of turn.order and turn.Order, slices.BinarySearch on numbers, slices.Reverse. -/
/-! slices.BinarySearch on rising numbers. -/
namespace Go.Proofs.Ytedeppgipciblaa
open Go.RowKit
theorem count_less : ∀ (T : List Nat) (k x : Nat), T.Pairwise (· < ·) → T[k]? = some x → (zs T).countP (fun z => decide (z < (x : Int))) = k
  | [], k, x, _, h => by simp at h
  | a :: T, k, x, hs, h => by
    rw [List.pairwise_cons] at hs
    have e : zs (a :: T) = (a : Int) :: zs T := rfl
    rw [e, List.countP_cons]
    cases k with
    | zero =>
      simp at h
      subst h
      rw [List.countP_eq_zero.2]
      · simp
      · intro z hz
        simp [zs] at hz
        obtain ⟨y, hy, rfl⟩ := hz
        have := hs.1 y hy
        simp; omega
    | succ k =>
      simp at h
      rw [count_less T k x hs.2 h]
      have := hs.1 x (List.mem_of_getElem? h)
      simp; omega
theorem search_w {F : Fz} {w : World} (hF : Sat F w) (T : List Nat) (hs : T.Pairwise (· < ·)) (A : Option Addr) (n c : Nat) (hT : Rd F 1 A n ((zs T).map encI)) (hn : n ≤ 1000) (k x : Nat) (hk : T[k]? = some x) :
    Calls Try.prog 42 #[.slice A n c, .int .i64 x] w fun e w' => e = .returned (.tuple #[.int .i64 k, .bool true]) ∧ ∃ q, w' = w.drewN q := by
  have hlen : T.length = n := by have := hT.1; simp [zs] at this; omega
  have hkl : k < T.length := (List.getElem?_eq_some_iff.1 hk).1
  obtain ⟨ad, rfl, hc⟩ := hT.2 (by omega)
  have h0 := hc 0 (encI (T[0]'(by omega) : Nat)) (by simp [zs, List.getElem?_eq_getElem (show 0 < T.length by omega)])
  have hsp : ad = ⟨ad.block, ad.off, none⟩ := by
    unfold Fz.cell at h0
    rw [show ad.add 0 = ad by unfold Addr.add; simp] at h0
    obtain ⟨b, o, s⟩ := ad
    cases s with
    | none => rfl
    | some s =>
      split at h0
      · simp at h0
      · cases h0
  have hzl : (zs T).length = n := by rw [length_zs, hlen]
  have htk : (zs T).take n = zs T := by rw [← hzl, List.take_length]
  have hcell : ∀ j, j < (zs T).length → w.cell? ⟨ad.block, ad.off + j, none⟩ = some (.int .i64 ((zs T).getD j 0)) := fun j hj => by
    have h1 := hc j (.int .i64 ((zs T).getD j 0)) (by rw [List.getElem?_map, List.getElem?_eq_getElem hj, List.getD, List.getElem?_eq_getElem hj]; rfl)
    have h2 := hF.cell h1
    rw [hsp] at h2
    have e : Addr.add ⟨ad.block, ad.off, none⟩ j = ⟨ad.block, ad.off + j, none⟩ := by unfold Addr.add; cases j <;> simp
    rw [e] at h2
    exact h2
  have hsz : ((zs T).take n).Pairwise (· ≤ ·) := by
    rw [htk]
    unfold zs
    rw [List.pairwise_map]
    exact hs.imp fun h => by omega
  have hS := Any.slices_BinarySearch_int lays25 ad.block ad.off n c (zs T) x w (by omega) (by omega) hcell hsz
  rw [← hsp, htk] at hS
  refine hS.mono fun e w' ⟨h1, h2⟩ => ⟨?_, h2⟩
  rw [h1, count_less T k x hs hk]
  have hcon : (zs T).contains (x : Int) = true := by
    rw [List.contains_iff_mem]
    unfold zs
    exact List.mem_map.2 ⟨x, List.mem_of_getElem? hk, rfl⟩
  rw [hcon]
end Go.Proofs.Ytedeppgipciblaa
/-! The walk of turn.order. -/
namespace Go.Proofs.Ytedeppgipciblaa
open Go.RowKit
/-- The places of the tests, as they stand in what is turned round. -/
def ordP : Tr → Nat → List Nat
  | .leaf _, _ => []
  | .un h a, o => if h.kind = 19 then [o + a.size] else ordP a o
  | .bin h a b, o => if h.kind = 21 then ordP b (o + a.size) ++ ordP a o else ordP a o ++ ordP b (o + a.size)
theorem length_ordP : ∀ (t : Tr) (o : Nat), (ordP t o).length = testsT t
  | .leaf _, _ => rfl
  | .un h a, o => by
    by_cases h1 : h.kind = 19
    · simp [ordP, testsT, h1]
    · simp [ordP, testsT, h1, length_ordP a]
  | .bin h a b, o => by
    by_cases h1 : h.kind = 21
    · simp [ordP, testsT, h1, length_ordP a, length_ordP b, Nat.add_comm]
    · simp [ordP, testsT, h1, length_ordP a, length_ordP b]
/-- Where the places' numbers lie. -/
theorem ord_place : ∀ (t : Tr) (o k i q : Nat) (T : List Nat), (∀ j, j < testsT t → T[k + j]? = (testsL t o)[j]?) → (ordT t k)[i]? = some q → T[q]? = (ordP t o)[i]?
  | .leaf _, o, k, i, q, T, _, h => by simp [ordT] at h
  | .un h a, o, k, i, q, T, hT, hq => by
    by_cases h1 : h.kind = 19
    · have h2 := hT 0 (by simp [testsT, h1])
      simp [ordT, h1] at hq
      simp [testsL, h1] at h2
      obtain ⟨hi, e⟩ := List.getElem?_eq_some_iff.1 hq
      obtain rfl : i = 0 := by simp at hi; exact hi
      simp at e
      subst e
      simp [ordP, h1, h2]
    · simp only [ordT, h1, if_false] at hq
      simp only [ordP, h1, if_false]
      exact ord_place a o k i q T (fun j hj => by have := hT j (by simp [testsT, h1]; exact hj); simpa [testsL, h1] using this) hq
  | .bin h a b, o, k, i, q, T, hT, hq => by
    have hA : ∀ j, j < testsT a → T[k + j]? = (testsL a o)[j]? := fun j hj => by
      have := hT j (by simp [testsT]; omega)
      simp only [testsL] at this
      rwa [List.getElem?_append_left (by rw [length_tests]; exact hj)] at this
    have hB : ∀ j, j < testsT b → T[k + testsT a + j]? = (testsL b (o + a.size))[j]? := fun j hj => by
      have := hT (testsT a + j) (by simp [testsT]; omega)
      simp only [testsL] at this
      rw [List.getElem?_append_right (by rw [length_tests]; omega), length_tests, show testsT a + j - testsT a = j by omega] at this
      rwa [← Nat.add_assoc] at this
    have la := length_ord a k
    have lb := length_ord b (k + testsT a)
    by_cases h1 : h.kind = 21
    · simp only [ordT, ordP, h1, if_true] at hq ⊢
      by_cases hi : i < testsT b
      · rw [List.getElem?_append_left (by rw [lb]; exact hi)] at hq
        rw [List.getElem?_append_left (by rw [length_ordP]; exact hi)]
        exact ord_place b _ _ i q T hB hq
      · rw [List.getElem?_append_right (by rw [lb]; omega), lb] at hq
        rw [List.getElem?_append_right (by rw [length_ordP]; omega), length_ordP]
        exact ord_place a _ _ _ q T hA hq
    · simp only [ordT, ordP, h1, if_false] at hq ⊢
      by_cases hi : i < testsT a
      · rw [List.getElem?_append_left (by rw [la]; exact hi)] at hq
        rw [List.getElem?_append_left (by rw [length_ordP]; exact hi)]
        exact ord_place a _ _ i q T hA hq
      · rw [List.getElem?_append_right (by rw [la]; omega), la] at hq
        rw [List.getElem?_append_right (by rw [length_ordP]; omega), length_ordP]
        exact ord_place b _ _ _ q T hB hq
theorem retIO_nil {F : Fz} {w w' : World} (hb : Below w.heap.size w w') : RetIO F w [] (.returned (.slice none 0 0)) w' := ⟨none, 0, rfl, Nat.le_refl _, Own.nil _ _ _ _ _, hb⟩
theorem Own.base1 {F : Fz} {w : World} {B B' : Nat} {e : TypeId} {size n : Nat} {v : Value} {xs : List Value} (h : Own F w B e size v n xs) (hB : B' ≤ B) : Own F w B' e size v n xs := by
  obtain ⟨⟨hl, h1⟩, h2⟩ := h
  refine ⟨⟨hl, ?_⟩, h2⟩
  rcases h1 with h1 | ⟨g, cap, cur, e, hg, hr⟩
  · exact .inl h1
  · exact .inr ⟨g, cap, cur, e, by omega, hr⟩
set_option maxRecDepth 100000 in
set_option maxHeartbeats 2000000 in
theorem order19_w {F : Fz} {w : World} (hF : Sat F w) (l : List Nd) (A : Option Addr) (n c : Nat) (hl : NodesF F A n l) (i : Nat) (hi : i < l.length) (hk : l[i].kind = 19) :
    Calls Try.prog 41 #[.slice A n c, .int .i64 i] w (RetIO F w (zs [i])) := by
  obtain ⟨rfl, hl2⟩ := hl
  obtain ⟨ad, rfl, hL⟩ := hl2 (by omega)
  obtain ⟨Ak, ck, _, _, hd⟩ := hL i hi
  have hiI : (i : Int) < (l.length : Int) := by omega
  generalize l[i] = nd at *
  obtain ⟨kind, name, lo, hi', kids⟩ := nd
  dsimp only at hk
  subst hk
  obtain ⟨c0, c1, c2, c3, c4⟩ := hd.sat hF
  clear hd
  go_enter Try.func41, Try.ntmps41
  go_wp2_with fail
  go_ret
  refine ⟨some ⟨w.heap.size + 1, 0, none⟩, 1, by simp [zs], by simp [zs], ?_, (balloc _ _).alloc (by simp) _⟩
  have hN1 := Blk.new2 w (.cells #[.int .i64 19, .string name, .int .i64 lo, .int .i64 hi', .slice Ak kids.length ck] 66) 3 #[.int .i64 i]
  refine ⟨⟨rfl, .inr ⟨_, 1, _, rfl, by omega, hN1, Nat.le_refl _, by simp [maxLen], rfl, rfl⟩⟩, fun g hg => ?_⟩
  simp [Value.ownBlock] at hg
  subst hg
  exact hF.none_ (by omega)
set_option maxRecDepth 100000 in
set_option maxHeartbeats 4000000 in
theorem orderK_w {F : Fz} {w : World} (hF : Sat F w) (l : List Nd) (A : Option Addr) (n c : Nat) (hl : NodesF F A n l) (i : Nat) (hi : i < l.length) (rs : List (List Nat)) (hsum : (rs.map List.length).sum ≤ 1000)
    (h19 : l[i].kind ≠ 19) (h21 : l[i].kind ≠ 21) (hrs : rs.length = l[i].kids.length) (hkb : l[i].kids.length ≤ 1000)
    (hA : ∀ (q : Nat) (hq : q < rs.length) (hq2 : q < l[i].kids.length), ∀ X, Sat F X → Calls Try.prog 41 #[.slice A n c, .int .i64 l[i].kids[q]] X (RetIO F X (zs rs[q]))) :
    Calls Try.prog 41 #[.slice A n c, .int .i64 i] w (RetIO F w (zs rs.flatten)) := by
  obtain ⟨rfl, hl2⟩ := hl
  obtain ⟨ad, rfl, hL⟩ := hl2 (by omega)
  obtain ⟨Ak, ck, _, hK, hd⟩ := hL i hi
  have hiI : (i : Int) < (l.length : Int) := by omega
  generalize l[i] = nd at *
  obtain ⟨kind, name, lo, hi', kids⟩ := nd
  dsimp only at h19 h21 hrs hA hK hd hkb
  obtain ⟨c0, c1, c2, c3, c4⟩ := hd.sat hF
  have h19b : (kind == 19) = false := by rw [beq_eq_false_iff_ne]; exact h19
  have h21b : (kind == 21) = false := by rw [beq_eq_false_iff_ne]; exact h21
  have HA := Lib.hid hA
  have HRS := Lib.hid hrs
  have HSUM := Lib.hid hsum
  clear hd hA hrs hsum h19 h21
  dsimp only at c0 c1 c2 c3 c4
  have hb0 := balloc w (.cells #[.int .i64 kind, .string name, .int .i64 lo, .int .i64 hi', .slice Ak kids.length ck] 66)
  have hB0 := Blk.new w 66 #[.int .i64 kind, .string name, .int .i64 lo, .int .i64 hi', .slice Ak kids.length ck]
  have hsz : (w.alloc (.cells #[.int .i64 kind, .string name, .int .i64 lo, .int .i64 hi', .slice Ak kids.length ck] 66)).heap.size = w.heap.size + 1 := by simp
  go_enter Try.func41, Try.ntmps41
  go_wp2_with fail
  generalize w.alloc (.cells #[.int .i64 kind, .string name, .int .i64 lo, .int .i64 hi', .slice Ak kids.length ck] 66) = W at *
  go_loopw [6, 7, 20] (fun v6 _ v20 wr => ∃ (j : Nat) (A6 : Option Addr) (n6 c6 : Nat), j ≤ kids.length ∧ v20 = .int .i64 j ∧ v6 = .slice A6 n6 c6 ∧ Hid (n6 = (zs (rs.take j).flatten).length) ∧ n6 ≤ 1000 ∧ Own F wr (w.heap.size + 1) 3 1 (.slice A6 n6 c6) n6 ((zs (rs.take j).flatten).map encI) ∧ Below W.heap.size W wr) (fun _ _ v20 _ => kids.length - (intOf v20).toNat)
  case atStart => exact ⟨0, none, 0, 0, Nat.zero_le _, rfl, rfl, Lib.hid (by simp [zs]), Nat.zero_le _, Own.nil _ _ _ _ _, Below.refl _ _⟩
  case round =>
    obtain ⟨j, A6, n6, c6, hj, rfl, rfl, H6, hn6, hO, hbW⟩ := hrel
    have hbl := bthen hb0 hbW
    have hFr := hF.below hbl
    have hBr := hB0.call hbW
    obtain ⟨k0, k1, k2, k3, k4⟩ := blk5 hBr
    by_cases hlt : j < kids.length
    · have hjr : j < rs.length := by rw [HRS.out]; exact hlt
      obtain ⟨Akd, v, rfl, hv, hcell⟩ := hK.at1 hlt
      obtain rfl : Value.int .i64 kids[j] = v := by simpa [hlt] using hv
      have hcz := hFr.cell hcell
      have hjI : (j : Int) < (kids.length : Int) := by omega
      have hcall := HA.out j hjr hlt
      have htk : (rs.take (j + 1)).flatten = (rs.take j).flatten ++ rs[j] := by rw [List.take_succ_eq_append_getElem hjr, List.flatten_append, List.flatten_cons, List.flatten_nil, List.append_nil]
      have hle : (rs.take (j + 1)).flatten.length ≤ 1000 := by
        have h1 : (rs.take (j + 1)).flatten.length ≤ rs.flatten.length := by
          have h2 := List.take_append_drop (j + 1) rs
          have h3 : rs.flatten = (rs.take (j + 1)).flatten ++ (rs.drop (j + 1)).flatten := by rw [← List.flatten_append, h2]
          rw [h3]; simp
        have h2 := HSUM.out
        rw [← List.length_flatten] at h2
        omega
      generalize kids[j] = kd at *
      obtain ⟨r, hr⟩ : ∃ r, rs[j] = r := ⟨_, rfl⟩
      rw [hr] at hcall htk
      obtain ⟨m, hm⟩ : ∃ m, (zs r).length = m := ⟨_, rfl⟩
      have HM := Lib.hid hm
      have HTK : Hid (zs (rs.take (j + 1)).flatten = zs (rs.take j).flatten ++ zs r) := Lib.hid (by rw [htk]; simp [zs])
      have hnm : n6 + m ≤ 1000 := by
        have h1 := H6.out
        have h2 := congrArg List.length HTK.out
        rw [List.length_append, length_zs, ← h1, hm] at h2
        omega
      have HC := Lib.hid hcall
      clear hcall htk hle hr hm hv hcell
      go_wp2_with (first
        | (go_at_call 41; refine (HC.out _ hFr).mono ?_; rintro e w3 ⟨A7, c7, rfl, hc7, hO7, hw3⟩; rw [HM.out] at hc7 hO7; rw [HM.out]; have hO6 := hO.call hw3; obtain ⟨A8, c8, e8, _, hrd8⟩ := hO7.rdH; injection e8 with e81 _ e83; subst e81 e83)
        | (at_builtin; refine wpList_allI rfl (.tmp 32) (.tmp 39) rfl hO6 (hFr.below hw3) (by rfl) A7 m c7 (zs r) (by rfl) (sat_heapF w3) hrd8 (by omega) (by have := hbl.size; have := hw3.size; have := hbW.size; omega) ?_; intro v5 w5 hO5 hF5 hb5 hg5 hat5))
      rw [← HTK.out] at hO5
      obtain ⟨A5, c5, rfl, hc5⟩ := hO5.shape
      go_roundw
      case rel => exact ⟨j + 1, A5, n6 + m, c5, by omega, by go_num, rfl, Lib.hid (by rw [HTK.out, List.length_append, ← H6.out, HM.out]), hnm, hO5, (bthen hbW hw3).trans (hb5.mono (by omega))⟩
      case measure => simp [intOf]; omega
    · obtain rfl : j = kids.length := by omega
      have hdec : decide ((kids.length : Int) < (kids.length : Int)) = false := decide_eq_false (by omega)
      have htl : rs.take kids.length = rs := by rw [← HRS.out, List.take_length]
      rw [htl] at H6 hO
      have hO' := hO.base1 (B' := w.heap.size) (by omega)
      clear htl
      go_wp2_with fail
      go_ret
      exact ⟨A6, c6, by rw [← H6.out]; rfl, (by rw [← H6.out]; obtain ⟨_, _, e9, h9⟩ := hO.shape; injection e9 with _ _ e9; omega), by rw [← H6.out]; exact hO', hbl⟩
set_option maxRecDepth 100000 in
set_option maxHeartbeats 4000000 in
theorem order21_w {F : Fz} {w : World} (hF : Sat F w) (l : List Nd) (A : Option Addr) (n c : Nat) (hl : NodesF F A n l) (i : Nat) (hi : i < l.length) (ra rb : List Nat) (hsum : ra.length + rb.length ≤ 1000) (ia ib : Nat)
    (hk : l[i].kind = 21) (hkids : l[i].kids = [(ia : Int), (ib : Int)])
    (hA : ∀ X, Sat F X → Calls Try.prog 41 #[.slice A n c, .int .i64 ia] X (RetIO F X (zs ra)))
    (hB : ∀ X, Sat F X → Calls Try.prog 41 #[.slice A n c, .int .i64 ib] X (RetIO F X (zs rb))) :
    Calls Try.prog 41 #[.slice A n c, .int .i64 i] w (RetIO F w (zs (rb ++ ra))) := by
  obtain ⟨rfl, hl2⟩ := hl
  obtain ⟨ad, rfl, hL⟩ := hl2 (by omega)
  obtain ⟨Ak, ck, _, hK, hd⟩ := hL i hi
  have hiI : (i : Int) < (l.length : Int) := by omega
  generalize l[i] = nd at *
  obtain ⟨kind, name, lo, hi', kids⟩ := nd
  dsimp only at hk hkids hK hd
  subst hk hkids
  obtain ⟨c0, c1, c2, c3, c4⟩ := hd.sat hF
  obtain ⟨ak, v, rfl, hv, hk0⟩ := hK.at1 (k := 0) (by simp)
  obtain rfl : Value.int .i64 (ia : Int) = v := by simpa using hv
  obtain ⟨ak2, v, e2, hv, hk1⟩ := hK.at1 (k := 1) (by simp)
  obtain rfl : Value.int .i64 (ib : Int) = v := by simpa using hv
  injection e2 with e2
  subst e2
  rw [show ak.add 0 = ak by unfold Addr.add; simp] at hk0
  rw [show ak.add 1 = ⟨ak.block, ak.off + 1, none⟩ by simp [Addr.add]] at hk1
  have HA := Lib.hid hA
  have HB := Lib.hid hB
  have HSUM := Lib.hid hsum
  clear hd hA hB hsum hv hK
  have c4' : w.cell? ⟨(ad.add (i * 5)).block, (ad.add (i * 5)).off + 4, none⟩ = some (.slice (some ak) 2 ck) := c4
  clear c4
  dsimp only at c0 c1 c2 c3
  have hb0 := balloc w (.cells #[.int .i64 21, .string name, .int .i64 lo, .int .i64 hi', .slice (some ak) 2 ck] 66)
  have hB0 := Blk.new w 66 #[.int .i64 21, .string name, .int .i64 lo, .int .i64 hi', .slice (some ak) 2 ck]
  have hsz : (w.alloc (.cells #[.int .i64 21, .string name, .int .i64 lo, .int .i64 hi', .slice (some ak) 2 ck] 66)).heap.size = w.heap.size + 1 := by simp
  go_enter Try.func41, Try.ntmps41
  go_wp2_with fail
  generalize w.alloc (.cells #[.int .i64 21, .string name, .int .i64 lo, .int .i64 hi', .slice (some ak) 2 ck] 66) = W at *
  go_loopw [6, 7, 20] (fun v6 _ v20 wr => ∃ (j : Nat) (xs : List Nat) (A6 : Option Addr) (n6 c6 : Nat), j ≤ 2 ∧ v20 = .int .i64 j ∧ v6 = .slice A6 n6 c6 ∧ Hid (xs = if j = 0 then [] else if j = 1 then rb else rb ++ ra) ∧ Hid (n6 = (zs xs).length) ∧ n6 ≤ 1000 ∧ Own F wr (w.heap.size + 1) 3 1 (.slice A6 n6 c6) n6 ((zs xs).map encI) ∧ Below W.heap.size W wr) (fun _ _ v20 _ => 2 - (intOf v20).toNat)
  case atStart => exact ⟨0, [], none, 0, 0, by omega, rfl, rfl, Lib.hid rfl, Lib.hid (by simp [zs]), Nat.zero_le _, Own.nil _ _ _ _ _, Below.refl _ _⟩
  case round =>
    obtain ⟨j, xs, A6, n6, c6, hj, rfl, rfl, HX, H6, hn6, hO, hbW⟩ := hrel
    have hbl := bthen hb0 hbW
    have hFr := hF.below hbl
    have hBr := hB0.call hbW
    obtain ⟨k0, k1, k2, k3, k4⟩ := blk5 hBr
    have y0 := hFr.cell hk0
    have y1 := hFr.cell hk1
    have hstep : ∀ (r : List Nat) (x : Nat), (∀ X, Sat F X → Calls Try.prog 41 #[.slice (some ad) l.length c, .int .i64 x] X (RetIO F X (zs r))) → xs.length + r.length ≤ 1000 →
        Hid (∀ X, Sat F X → Calls Try.prog 41 #[.slice (some ad) l.length c, .int .i64 x] X (RetIO F X (zs r))) ∧ Hid (zs xs ++ zs r = zs (xs ++ r)) ∧ ∃ m, Hid ((zs r).length = m) ∧ n6 + m ≤ 1000 := fun r x h h2 =>
      ⟨Lib.hid h, Lib.hid (by simp [zs]), r.length, Lib.hid (by simp [zs]), by have h3 := H6.out; rw [length_zs] at h3; omega⟩
    rcases (show j = 0 ∨ j = 1 ∨ j = 2 by omega) with rfl | rfl | rfl
    · have hx : xs = [] := HX.out
      obtain ⟨HC, HTK, m, HM, hnm⟩ := hstep rb ib HB.out (by rw [hx]; have := HSUM.out; simp; omega)
      clear hstep hx
      go_wp2_with (first
        | (go_at_call 41; refine (HC.out _ hFr).mono ?_; rintro e w3 ⟨A7, c7, rfl, hc7, hO7, hw3⟩; rw [HM.out] at hc7 hO7; rw [HM.out]; have hO6 := hO.call hw3; obtain ⟨A8, c8, e8, _, hrd8⟩ := hO7.rdH; injection e8 with e81 _ e83; subst e81 e83)
        | (at_builtin; refine wpList_allI rfl (.tmp 32) (.tmp 39) rfl hO6 (hFr.below hw3) (by rfl) A7 m c7 (zs rb) (by rfl) (sat_heapF w3) hrd8 (by omega) (by have := hbl.size; have := hw3.size; have := hbW.size; omega) ?_; intro v5 w5 hO5 hF5 hb5 hg5 hat5))
      rw [HTK.out] at hO5
      obtain ⟨A5, c5, rfl, hc5⟩ := hO5.shape
      go_roundw
      case rel => exact ⟨1, xs ++ rb, A5, n6 + m, c5, by omega, by go_num, rfl, Lib.hid (by rw [HX.out]; rfl), Lib.hid (by rw [← HTK.out, List.length_append, ← H6.out, HM.out]), hnm, hO5, (bthen hbW hw3).trans (hb5.mono (by omega))⟩
      case measure => simp [intOf]
    · have hx : xs = rb := HX.out
      obtain ⟨HC, HTK, m, HM, hnm⟩ := hstep ra ia HA.out (by rw [hx]; have := HSUM.out; omega)
      clear hstep hx
      go_wp2_with (first
        | (go_at_call 41; refine (HC.out _ hFr).mono ?_; rintro e w3 ⟨A7, c7, rfl, hc7, hO7, hw3⟩; rw [HM.out] at hc7 hO7; rw [HM.out]; have hO6 := hO.call hw3; obtain ⟨A8, c8, e8, _, hrd8⟩ := hO7.rdH; injection e8 with e81 _ e83; subst e81 e83)
        | (at_builtin; refine wpList_allI rfl (.tmp 32) (.tmp 39) rfl hO6 (hFr.below hw3) (by rfl) A7 m c7 (zs ra) (by rfl) (sat_heapF w3) hrd8 (by omega) (by have := hbl.size; have := hw3.size; have := hbW.size; omega) ?_; intro v5 w5 hO5 hF5 hb5 hg5 hat5))
      rw [HTK.out] at hO5
      obtain ⟨A5, c5, rfl, hc5⟩ := hO5.shape
      go_roundw
      case rel => exact ⟨2, xs ++ ra, A5, n6 + m, c5, by omega, by go_num, rfl, Lib.hid (by rw [HX.out]; rfl), Lib.hid (by rw [← HTK.out, List.length_append, ← H6.out, HM.out]), hnm, hO5, (bthen hbW hw3).trans (hb5.mono (by omega))⟩
      case measure => simp [intOf]
    · have hx : xs = rb ++ ra := HX.out
      rw [hx] at H6 hO
      have hO' := hO.base1 (B' := w.heap.size) (by omega)
      clear hx hstep
      go_wp2_with fail
      go_ret
      exact ⟨A6, c6, by rw [← H6.out]; rfl, (by rw [← H6.out]; obtain ⟨_, _, e9, h9⟩ := hO.shape; injection e9 with _ _ e9; omega), by rw [← H6.out]; exact hO', hbl⟩
/-- The whole of turn.order. -/
theorem order_w {F : Fz} (l : List Nd) (hn : l.length ≤ 1000) (A : Option Addr) (n c : Nat) (hl : NodesF F A n l) :
    ∀ (t : Tr) (o : Nat) (pre post : List Nd), l = pre ++ t.flat o ++ post → pre.length = o → regV t → ∀ w, Sat F w →
    Calls Try.prog 41 #[.slice A n c, .int .i64 (o + t.size - 1 : Nat)] w (RetIO F w (zs (ordP t o)))
  | .leaf h, o, pre, post, hl2, hp, hv, w, hF => by
    obtain ⟨hi, hg⟩ := get_placed hl2 hp
    have hk : l[o + (Tr.leaf h).size - 1].kind = 18 := by rw [hg]; exact hv
    exact orderK_w hF l A n c hl _ hi [] (by simp) (by omega) (by omega) (by rw [hg]; rfl) (by rw [hg]; exact Nat.zero_le _) (fun q hq => by simp at hq)
  | .un h a, o, pre, post, hl2, hp, hv, w, hF => by
    obtain ⟨hi, hg⟩ := get_placed hl2 hp
    have hsa := a.size_pos
    by_cases h19 : h.kind = 19
    · have e : ordP (.un h a) o = [o + (Tr.un h a).size - 1] := by simp [ordP, h19, Tr.size]
      rw [e]
      exact order19_w hF l A n c hl _ hi (by rw [hg]; exact h19)
    · obtain ⟨h22, hva⟩ := hv.elim (fun e => absurd e h19) id
      have ih := order_w l hn A n c hl a o pre ({ h with kids := [((o + a.size : Nat) : Int) - 1] } :: post) (by rw [hl2, Tr.flat]; simp) hp hva
      have hkids : l[o + (Tr.un h a).size - 1].kids = [((o + a.size - 1 : Nat) : Int)] := by
        rw [hg]
        show [((o + a.size : Nat) : Int) - 1] = _
        simp only [List.cons.injEq, and_true]
        omega
      have e : ordP (.un h a) o = [ordP a o].flatten := by simp [ordP, h19]
      rw [e]
      have hsz : (ordP a o).length ≤ 1000 := by
        have h1 := length_ordP a o
        have h2 := testsT_le a
        have h3 := congrArg List.length hl2
        simp [Tr.length_flat, Tr.size] at h3
        omega
      refine orderK_w hF l A n c hl _ hi [ordP a o] (by simpa using hsz) (by rw [hg]; exact h19) (by rw [hg]; show h.kind ≠ 21; omega) (by rw [hkids]; rfl) (by rw [hkids]; simp) (fun q hq hq2 X hX => ?_)
      obtain rfl : q = 0 := by simpa using hq
      have e2 : l[o + (Tr.un h a).size - 1].kids[0] = ((o + a.size - 1 : Nat) : Int) := by simp [hkids]
      rw [e2]
      exact ih X hX
  | .bin h a b, o, pre, post, hl2, hp, hv, w, hF => by
    obtain ⟨hi, hg⟩ := get_placed hl2 hp
    obtain ⟨hk, hva, hvb⟩ := hv
    have iha := order_w l hn A n c hl a o pre (b.flat (o + a.size) ++ { h with kids := [((o + a.size : Nat) : Int) - 1, ((o + a.size + b.size : Nat) : Int) - 1] } :: post) (by rw [hl2, Tr.flat]; simp) hp hva
    have ihb := order_w l hn A n c hl b (o + a.size) (pre ++ a.flat o) ({ h with kids := [((o + a.size : Nat) : Int) - 1, ((o + a.size + b.size : Nat) : Int) - 1] } :: post) (by rw [hl2, Tr.flat]; simp) (by simp [hp, Tr.length_flat]) hvb
    have hsa := a.size_pos
    have hsb := b.size_pos
    have hkids : l[o + (Tr.bin h a b).size - 1].kids = [((o + a.size - 1 : Nat) : Int), ((o + a.size + b.size - 1 : Nat) : Int)] := by
      rw [hg]
      show [((o + a.size : Nat) : Int) - 1, ((o + a.size + b.size : Nat) : Int) - 1] = _
      simp only [List.cons.injEq, and_true]
      omega
    have hsz : (ordP a o).length + (ordP b (o + a.size)).length ≤ 1000 := by
      have h1 := length_ordP a o
      have h2 := testsT_le a
      have h4 := length_ordP b (o + a.size)
      have h5 := testsT_le b
      have h3 := congrArg List.length hl2
      simp [Tr.length_flat, Tr.size] at h3
      omega
    rcases hk with hk | hk
    · have e : ordP (.bin h a b) o = [ordP a o, ordP b (o + a.size)].flatten := by simp [ordP, hk]
      rw [e]
      refine orderK_w hF l A n c hl _ hi [ordP a o, ordP b (o + a.size)] (by simpa using hsz) (by rw [hg]; show h.kind ≠ 19; omega) (by rw [hg]; show h.kind ≠ 21; omega) (by rw [hkids]; rfl) (by rw [hkids]; simp) (fun q hq hq2 X hX => ?_)
      rcases (show q = 0 ∨ q = 1 by simp at hq; omega) with rfl | rfl
      · have e2 : l[o + (Tr.bin h a b).size - 1].kids[0] = ((o + a.size - 1 : Nat) : Int) := by simp [hkids]
        rw [e2]
        exact iha X hX
      · have e2 : l[o + (Tr.bin h a b).size - 1].kids[1] = ((o + a.size + b.size - 1 : Nat) : Int) := by simp [hkids]
        rw [e2]
        exact ihb X hX
    · have e : ordP (.bin h a b) o = ordP b (o + a.size) ++ ordP a o := by simp [ordP, hk]
      rw [e]
      exact order21_w hF l A n c hl _ hi _ _ hsz _ _ (by rw [hg]; exact hk) hkids iha ihb
end Go.Proofs.Ytedeppgipciblaa
/-! The walk of turn.Order. -/
/-! The walk of turn.Order. -/
namespace Go.Proofs.Ytedeppgipciblaa
open Go.RowKit
theorem zs_set (xs : List Nat) (m x : Nat) : (zs xs).set m (x : Int) = zs (xs.set m x) := by unfold zs; rw [List.map_set]
set_option maxRecDepth 100000 in
set_option maxHeartbeats 600000 in
theorem tOrder_w {F : Fz} {w : World} (hF : Sat F w) (l : List Nd) (hn : l.length ≤ 1000) (A : Option Addr) (n c : Nat) (hl : NodesF F A n l) :
    Calls Try.prog 15 #[.slice A n c] w (RetI w (zs (ordL l))) := by
  have hR := fun b hb => treg_w hF l hn A n c hl b hb
  cases hreg : regL l
  · have HR := Lib.hid (hR _ hreg)
    have HE := Lib.hid (turn_no hreg).2
    clear hR hreg hl
    go_enter Try.func15, Try.ntmps15
    go_wp2_with (go_at_call 18; refine HR.out.mono ?_; rintro e w1 ⟨rfl, hw⟩)
    go_ret
    rw [HE.out]
    exact retI_nil hw
  · have HR := Lib.hid (hR _ hreg)
    obtain ⟨t, ht, hrk, he⟩ := ownS_yes hreg
    have hv := regV_of (tree_valid ht) hrk
    have hks : kindS l 19 = testsL t 0 := by unfold kindS; rw [he]; exact ownK_tests (tree_flat ht) hv
    have hTs : (testsL t 0).Pairwise (· < ·) := by rw [← hks]; unfold kindS; rw [he]; exact (own_sorted t 0).filter _
    have hTT := fun (X : World) (h : Sat F X) => tests_w h l hn A n c hl
    rw [hks] at hTT
    have hOO := fun (X : World) (h : Sat F X) => order_w l hn A n c hl t 0 [] [] (by simpa using tree_flat ht) rfl hv X h
    rw [Nat.zero_add] at hOO
    have hsp := t.size_pos
    have hpl : ((n : Int) - 1) = ((t.size - 1 : Nat) : Int) := by have := hl.1; have := tree_len ht; omega
    have hte := testsT_le t
    have hnn : n ≤ 1000 := by have := hl.1; omega
    have htl := tree_len ht
    have hLT := length_tests t 0
    have hLO := length_ordP t 0
    have hLN := length_ord t 0
    have hoe := (turn_yes ht hrk).2
    have hplace := fun i q h => ord_place t 0 0 i q (testsL t 0) (fun j _ => by rw [Nat.zero_add]) h
    obtain ⟨N, hN⟩ : ∃ N, testsT t = N := ⟨_, rfl⟩
    rw [hN] at hLT hLO hLN
    have hN1 : N ≤ 1000 := by omega
    have hrng : ∀ (i : Nat) (hi : i < N), ∃ q p, (ordT t 0)[i]? = some q ∧ (ordP t 0)[i]? = some p ∧ (testsL t 0)[q]? = some p := fun i hi => by
      have h1 : (ordT t 0)[i]? = some ((ordT t 0)[i]'(by rw [hLN]; exact hi)) := List.getElem?_eq_getElem _
      have h2 : (ordP t 0)[i]? = some ((ordP t 0)[i]'(by rw [hLO]; exact hi)) := List.getElem?_eq_getElem _
      exact ⟨_, _, h1, h2, (hplace i _ h1).trans h2⟩
    generalize testsL t 0 = T at *
    generalize ordP t 0 = P at *
    generalize ordT t 0 = O at *
    have HTT := Lib.hid hTT
    have HOO := Lib.hid hOO
    have HTS := Lib.hid hTs
    have HPL := Lib.hid hpl
    have HRN := Lib.hid hrng
    have HOE := Lib.hid hoe
    have HLT : Hid ((zs T).length = N) := Lib.hid (by rw [length_zs, hLT])
    have HLP : Hid ((zs P).length = N) := Lib.hid (by rw [length_zs, hLO])
    have HLO := Lib.hid hLN
    have HP2 := Lib.hid hLO
    clear hR hreg ht hrk he hv hks hTs hTT hOO hsp hpl hte htl hLT hLO hLN hoe hplace hN hrng
    go_enter Try.func15, Try.ntmps15
    go_wp2_with (first
      | (go_at_call 18; refine HR.out.mono ?_; rintro e w1 ⟨rfl, hw1⟩)
      | (go_at_call 17; refine (HTT.out _ (hF.below hw1)).mono ?_; rintro e w2 ⟨B, cB, rfl, hcB, hrB, hw2⟩; rw [HLT.out] at hrB hcB; rw [HLT.out]))
    have hw12 := bthen hw1 hw2
    rw [HPL.out]
    go_wp2_with (go_at_call 41; refine (HOO.out _ (hF.below hw12)).mono ?_; rintro e w3 ⟨A3, c3, rfl, hc3, hO3, hw3⟩; rw [HLP.out] at hO3 hc3; rw [HLP.out])
    go_loopw [5, 6, 19] (fun _ _ v wr => ∃ (m : Nat) (xs : List Nat), m ≤ N ∧ v = .int .i64 m ∧ Hid (xs.length = N) ∧ Hid (∀ i, i < m → xs[i]? = O[i]?) ∧ Hid (∀ i, m ≤ i → xs[i]? = P[i]?) ∧ Own F wr w2.heap.size 3 1 (.slice A3 N c3) N ((zs xs).map encI) ∧ Below w2.heap.size w2 wr) (fun _ _ v _ => N - (intOf v).toNat)
    case atStart => exact ⟨0, P, Nat.zero_le _, rfl, HP2, Lib.hid (fun i hi => by omega), Lib.hid (fun i _ => rfl), hO3, hw3⟩
    case round =>
      obtain ⟨m, xs, hm, rfl, HL, HA, HB, hO, hbl⟩ := hrel
      by_cases hlt : m < N
      · have hltI : (m : Int) < (N : Int) := by omega
        obtain ⟨q, p, h1, h2, h3⟩ := HRN.out m hlt
        obtain ⟨g, cap, e9, _, hBg, _, _⟩ : ∃ g cap, Value.slice A3 N c3 = .slice (some ⟨g, 0, none⟩) N cap ∧ N ≤ cap ∧ w2.heap.size ≤ g ∧ F g = none ∧ BlkL wr g 3 ((zs xs).map encI) := by
          rcases hO.blk with ⟨_, h0, _⟩ | h
          · omega
          · exact h
        injection e9 with e91 _ e93
        subst e91 e93
        obtain ⟨hc0, hfz, _⟩ := hO.cellAt hlt
        have hxm : xs[m]? = some p := (HB.out m (Nat.le_refl _)).trans h2
        have hxv : ((zs xs).map encI)[m]? = some (encI (p : Nat)) := by unfold zs; rw [List.getElem?_map, List.getElem?_map, hxm]; rfl
        rw [hxv] at hc0
        have hsr := search_w ((sat_heapF w2).below hbl) T HTS.out B N cB hrB hN1 q p h3
        have HSR := Lib.hid hsr
        have hst := hO.store hlt (encI (q : Nat))
        have hset : ((zs xs).map encI).set m (encI (q : Nat)) = (zs (xs.set m q)).map encI := by rw [← List.map_set, zs_set]
        rw [hset] at hst
        have hml : m < xs.length := by rw [HL.out]; exact hlt
        have HL2 : Hid ((xs.set m q).length = N) := Lib.hid (by rw [List.length_set, HL.out])
        have HA2 : Hid (∀ i, i < m + 1 → (xs.set m q)[i]? = O[i]?) := Lib.hid (fun i hi => by
          by_cases e : m = i
          · subst e; rw [List.getElem?_set, if_pos rfl, if_pos hml, h1]
          · rw [List.getElem?_set, if_neg e]; exact HA.out i (by omega))
        have HB2 : Hid (∀ i, m + 1 ≤ i → (xs.set m q)[i]? = P[i]?) := Lib.hid (fun i hi => by
          rw [List.getElem?_set, if_neg (by omega)]; exact HB.out i (by omega))
        have hbs := fun k => (below_drewN hbl k).setCell (p := ⟨g, m, none⟩) hBg (encI (q : Nat))
        have hstk : ∀ k, Own F ((wr.drewN k).setCell ⟨g, m, none⟩ (encI (q : Nat))) w2.heap.size 3 1 (.slice (some ⟨g, 0, none⟩) N c3) N ((zs (xs.set m q)).map encI) := fun k => by
          have := (hO.drewN k).store hlt (encI (q : Nat))
          rw [hset] at this
          exact this
        have HSTK := Lib.hid hstk
        clear hsr hst hset hxv hxm h1 h2 h3 hml hstk
        go_wp2_with (go_at_call 42; refine HSR.out.mono ?_; rintro e w5 ⟨rfl, k5, rfl⟩)
        go_roundw
        case rel => exact ⟨m + 1, xs.set m q, by omega, by go_num, HL2, HA2, HB2, HSTK.out k5, hbs k5⟩
        case measure => simp [intOf]; omega
      · obtain rfl : m = N := by omega
        have hdec : decide ((m : Int) < (m : Int)) = false := decide_eq_false (by omega)
        have HX : Hid (xs = O) := Lib.hid (by
          apply List.ext_getElem?
          intro i
          by_cases hi : i < m
          · exact HA.out i hi
          · rw [List.getElem?_eq_none (by rw [HL.out]; omega), List.getElem?_eq_none (by rw [HLO.out]; omega)])
        have HZ : Hid (m = (zs (ordL l)).length) := Lib.hid (by rw [length_zs, HOE.out, HLO.out])
        obtain ⟨A5, c5, e5, _, hrd⟩ := hO.rdH
        injection e5 with e51 _ e53
        subst e51 e53
        rw [HX.out, ← HOE.out] at hrd
        clear hO
        go_wp2_with fail
        go_ret
        exact ⟨A3, c3, by rw [← HZ.out]; rfl, by rw [← HZ.out]; exact hc3, by rw [← HZ.out]; exact hrd, bthen hw12 hbl⟩
end Go.Proofs.Ytedeppgipciblaa
