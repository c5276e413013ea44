/- What SatDual and SatUnwinds say, of trees: plain. -/
import Derived.Test.YtdbbooibkiicnaaDoorSatM
import Derived.Test.YtdbbooibkiicnaaDoorSatF
import Derived.Test.YtdbbooibkiicnaaDoorOver
import Derived.Test.YtdbbooibkiicnaaDoorPileP
set_option linter.unusedVariables false
set_option linter.unusedSimpArgs false
/-! What SatDual and SatUnwinds say, of trees: plain. -/
namespace Go.Proofs.YtdbbooibkiicnaaDoor
/-- A node of a kind over formulas, with a span. -/
def nSp (k lo hi : Int) : Nd := ⟨k, ⟨#[]⟩, lo, hi, []⟩
theorem has_all (d : Nat) : hasD 0 (-1) d = true := by unfold hasD; simp
section
variable (X : TrcS) (lo hi : Int) (a b : Tr) (i : Nat)
theorem sat_or : satT X (.bin (nSp 6 0 0) a b) i = (satT X a i || satT X b i) := by rw [sat_bin]; simp [binS, nSp]
theorem sat_and : satT X (.bin (nSp 5 0 0) a b) i = (satT X a i && satT X b i) := by rw [sat_bin]; simp [binS, nSp]
theorem sat_next : satT X (.un (nSp 9 0 (-1)) a) i = (decide (i + 1 < X.n) && satT X a (i + 1)) := by rw [sat_un]; simp [unS, nSp, has_all]
theorem sat_prev : satT X (.un (nSp 8 0 (-1)) a) i = (decide (0 < i) && satT X a (i - 1)) := by rw [sat_un]; simp [unS, nSp, has_all]
theorem dual_hist : satT X (.un (nSp 11 lo hi) a) i = satT X (.un (nSp 4 0 0) (.un (nSp 10 lo hi) (.un (nSp 4 0 0) a))) i := by
  simp only [sat_un]
  unfold unS
  simp only [nSp]
  simp
  rfl
theorem dual_all : satT X (.un (nSp 13 lo hi) a) i = satT X (.un (nSp 4 0 0) (.un (nSp 12 lo hi) (.un (nSp 4 0 0) a))) i := by
  simp only [sat_un]
  unfold unS
  simp only [nSp]
  simp
  rfl
theorem sat_yes : satT X (.leaf (nSp 1 0 0)) = allw := by funext i; rw [sat_leaf]; simp [leafS, nSp, allw]
theorem sat_no : satT X (.leaf (nSp 2 0 0)) = fun _ => false := by funext i; rw [sat_leaf]; simp [leafS, nSp]
theorem dual_since : satT X (.bin (nSp 14 lo hi) (.leaf (nSp 1 0 0)) a) i = satT X (.un (nSp 10 lo hi) a) i := by
  rw [sat_bin, sat_un, sat_yes]
  simp [binS, unS, nSp]
theorem dual_until : satT X (.bin (nSp 15 lo hi) (.leaf (nSp 1 0 0)) a) i = satT X (.un (nSp 12 lo hi) a) i := by
  rw [sat_bin, sat_un, sat_yes]
  simp [binS, unS, nSp]
theorem dual_now (hi' : i < X.n) : satT X (.bin (nSp 15 0 (-1)) (.leaf (nSp 2 0 0)) a) i = satT X a i := by
  rw [sat_bin, sat_no]
  obtain ⟨m, hm⟩ : ∃ m, X.n - i = m + 1 := ⟨X.n - i - 1, by omega⟩
  simp [binS, nSp, hm, someU, has_all]
theorem dual_imp : satT X (.bin (nSp 7 0 0) a b) i = satT X (.bin (nSp 6 0 0) (.un (nSp 4 0 0) a) b) i := by
  simp [sat_bin, sat_un, binS, unS, nSp]
theorem dual_and : satT X (.un (nSp 4 0 0) (.bin (nSp 5 0 0) a b)) i = satT X (.bin (nSp 6 0 0) (.un (nSp 4 0 0) a) (.un (nSp 4 0 0) b)) i := by
  simp [sat_bin, sat_un, binS, unS, nSp]
theorem wind_until (hi' : i < X.n) : satT X (.bin (nSp 15 0 (-1)) a b) i = satT X (.bin (nSp 6 0 0) b (.bin (nSp 5 0 0) a (.un (nSp 9 0 (-1)) (.bin (nSp 15 0 (-1)) a b)))) i := by
  have h : ∀ j, satT X (.bin (nSp 15 0 (-1)) a b) j = someU (satT X b) (satT X a) (X.n - j) j := fun j => by
    rw [sat_bin]; simp [binS, nSp, has_all]
  have e : satT X (.bin (nSp 6 0 0) b (.bin (nSp 5 0 0) a (.un (nSp 9 0 (-1)) (.bin (nSp 15 0 (-1)) a b)))) i = (satT X b i || (satT X a i && (decide (i + 1 < X.n) && satT X (.bin (nSp 15 0 (-1)) a b) (i + 1)))) := by
    rw [sat_or, sat_and, sat_next]
  rw [e, h, h]
  obtain ⟨m, hm⟩ : ∃ m, X.n - i = m + 1 := ⟨X.n - i - 1, by omega⟩
  rw [hm, show X.n - (i + 1) = m by omega, someU]
  by_cases hl : i + 1 < X.n
  · simp [hl]
  · rw [show m = 0 by omega]
    simp [hl, someU]
theorem wind_since : satT X (.bin (nSp 14 0 (-1)) a b) i = satT X (.bin (nSp 6 0 0) b (.bin (nSp 5 0 0) a (.un (nSp 8 0 (-1)) (.bin (nSp 14 0 (-1)) a b)))) i := by
  have h : ∀ j, satT X (.bin (nSp 14 0 (-1)) a b) j = someP (satT X b) (satT X a) j := fun j => by
    rw [sat_bin]; simp [binS, nSp, has_all]
  have e : satT X (.bin (nSp 6 0 0) b (.bin (nSp 5 0 0) a (.un (nSp 8 0 (-1)) (.bin (nSp 14 0 (-1)) a b)))) i = (satT X b i || (satT X a i && (decide (0 < i) && satT X (.bin (nSp 14 0 (-1)) a b) (i - 1)))) := by
    rw [sat_or, sat_and, sat_prev]
  rw [e, h, h]
  cases i with
  | zero => simp [someP]
  | succ j => simp [someP]
theorem wind_some (hi' : i < X.n) : satT X (.un (nSp 12 0 (-1)) a) i = satT X (.bin (nSp 6 0 0) a (.un (nSp 9 0 (-1)) (.un (nSp 12 0 (-1)) a))) i := by
  have h : ∀ j, satT X (.un (nSp 12 0 (-1)) a) j = someU (satT X a) allw (X.n - j) j := fun j => by
    rw [sat_un]; simp [unS, nSp, has_all]
  have e : satT X (.bin (nSp 6 0 0) a (.un (nSp 9 0 (-1)) (.un (nSp 12 0 (-1)) a))) i = (satT X a i || (decide (i + 1 < X.n) && satT X (.un (nSp 12 0 (-1)) a) (i + 1))) := by
    rw [sat_or, sat_next]
  rw [e, h, h]
  obtain ⟨m, hm⟩ : ∃ m, X.n - i = m + 1 := ⟨X.n - i - 1, by omega⟩
  rw [hm, show X.n - (i + 1) = m by omega, someU]
  by_cases hl : i + 1 < X.n
  · simp [hl, allw]
  · rw [show m = 0 by omega]
    simp [hl, someU]
theorem wind_once : satT X (.un (nSp 10 0 (-1)) a) i = satT X (.bin (nSp 6 0 0) a (.un (nSp 8 0 (-1)) (.un (nSp 10 0 (-1)) a))) i := by
  have h : ∀ j, satT X (.un (nSp 10 0 (-1)) a) j = someP (satT X a) allw j := fun j => by
    rw [sat_un]; simp [unS, nSp, has_all]
  have e : satT X (.bin (nSp 6 0 0) a (.un (nSp 8 0 (-1)) (.un (nSp 10 0 (-1)) a))) i = (satT X a i || (decide (0 < i) && satT X (.un (nSp 10 0 (-1)) a) (i - 1))) := by
    rw [sat_or, sat_prev]
  rw [e, h, h]
  cases i with
  | zero => simp [someP]
  | succ j => simp [someP, allw]
end
/-- A way of KMany is none, or one of the kid and then again. -/
def manyT (r b : Tr) : Tr := .bin (nSp 21 0 0) (.un (nSp 22 0 0) r) (.un (nSp 19 0 0) b)
theorem many_reach (n : Nat) (v : Nat → Nat → Bool) (r b : Tr) (k : Nat) (R : Mx) (hR : EqM n (reachT n v r k) R) (B : Nat → Bool) (hB : ∀ i, i < n → v i (k + testsT r) = B i) {i j : Nat} (hi : i < n) (hj : j < n) :
    reachT n v (manyT r b) k i j = true ↔ starM n R i j = true ∧ B j = true := by
  have e : reachT n v (manyT r b) k = prodM n (starM n (reachT n v r k)) (testM v (k + testsT r)) := by
    simp [manyT, reachT, nSp, testsT]
  rw [e, prodM_iff]
  constructor
  · rintro ⟨m, hm, h1, h2⟩
    unfold testM at h2
    simp only [Bool.and_eq_true, decide_eq_true_eq] at h2
    obtain ⟨rfl, h2⟩ := h2
    rw [star_congr hR i m hi hm] at h1
    exact ⟨h1, by rw [← hB m hm]; exact h2⟩
  · rintro ⟨h1, h2⟩
    refine ⟨j, hj, by rw [star_congr hR i j hi hj]; exact h1, ?_⟩
    unfold testM
    simp [hB j hj, h2]
theorem wind_fore (X : TrcS) (r b : Tr) (i : Nat) (hi : i < X.n) : satT X (.un (nSp 17 0 (-1)) (manyT r b)) i = satT X (.bin (nSp 6 0 0) b (.un (nSp 17 0 (-1)) (.bin (nSp 21 0 0) r (manyT r b)))) i := by
  obtain ⟨v, hv⟩ : ∃ v, valL (valsT X (manyT r b)) = v := ⟨_, rfl⟩
  obtain ⟨v2, hv2⟩ : ∃ v, valL (valsT X (.bin (nSp 21 0 0) r (manyT r b))) = v := ⟨_, rfl⟩
  have lr : (valsT X r).length = testsT r := length_vals X r
  have ev : ∀ i q, v i q = valL (valsT X r ++ [satT X b]) i q := fun i q => by
    rw [← hv, manyT, vals_bin, vals_un, vals_un]; rfl
  have ev2 : ∀ i q, v2 i q = valL (valsT X r ++ (valsT X r ++ [satT X b])) i q := fun i q => by
    rw [← hv2, manyT, vals_bin, vals_bin, vals_un, vals_un]; rfl
  have gl : ∀ (A B : List (Nat → Bool)) i q, q < A.length → valL (A ++ B) i q = valL A i q := fun A B i q h => by
    unfold valL; simp only [List.getD_eq_getElem?_getD]; rw [List.getElem?_append_left h]
  have gr : ∀ (A B : List (Nat → Bool)) i q, valL (A ++ B) i (A.length + q) = valL B i q := fun A B i q => by
    unfold valL; simp only [List.getD_eq_getElem?_getD]; rw [List.getElem?_append_right (by omega), Nat.add_sub_cancel_left]
  obtain ⟨R, hR⟩ : ∃ R, reachT X.n v r 0 = R := ⟨_, rfl⟩
  have hf : FwM R := by rw [← hR]; exact reach_fw X.n v r 0
  have hvB : ∀ i, i < X.n → v i (0 + testsT r) = satT X b i := fun i _ => by
    rw [Nat.zero_add, ev, ← lr]
    have := gr (valsT X r) [satT X b] i 0
    rw [Nat.add_zero] at this
    rw [this]; rfl
  have hv2B : ∀ i, i < X.n → v2 i (testsT r + testsT r) = satT X b i := fun i hi => by
    rw [ev2, ← lr, gr]
    have := hvB i hi
    rw [Nat.zero_add, ev, ← lr] at this
    exact this
  have hR0 : EqM X.n (reachT X.n v2 r 0) R := by
    rw [← hR]
    exact reach_congr X.n v2 v r 0 0 (fun i _ q hq => by rw [Nat.zero_add, ev, ev2, gl _ _ _ _ (by omega), gl _ _ _ _ (by omega)])
  have hRk : EqM X.n (reachT X.n v2 r (testsT r)) R := by
    rw [← hR]
    exact reach_congr X.n v2 v r (testsT r) 0 (fun i _ q hq => by rw [Nat.zero_add, ev, ev2, ← lr, gr])
  have h1 : ∀ j, j < X.n → (reachT X.n v (manyT r b) 0 i j = true ↔ starM X.n R i j = true ∧ satT X b j = true) := fun j hj => many_reach X.n v r b 0 R (by rw [hR]; exact fun _ _ _ _ => rfl) _ hvB hi hj
  have h2 : ∀ j, j < X.n → (reachT X.n v2 (.bin (nSp 21 0 0) r (manyT r b)) 0 i j = true ↔ ∃ k, k < X.n ∧ R i k = true ∧ starM X.n R k j = true ∧ satT X b j = true) := fun j hj => by
    have e : reachT X.n v2 (.bin (nSp 21 0 0) r (manyT r b)) 0 = prodM X.n (reachT X.n v2 r 0) (reachT X.n v2 (manyT r b) (testsT r)) := by
      rw [reachT]; simp [nSp]
    rw [e, prodM_iff]
    constructor
    · rintro ⟨k, hk, h3, h4⟩
      rw [hR0 i k hi hk] at h3
      exact ⟨k, hk, h3, (many_reach X.n v2 r b (testsT r) R hRk _ hv2B hk hj).1 h4⟩
    · rintro ⟨k, hk, h3, h4⟩
      exact ⟨k, hk, by rw [hR0 i k hi hk]; exact h3, (many_reach X.n v2 r b (testsT r) R hRk _ hv2B hk hj).2 h4⟩
  have e1 : satT X (.un (nSp 17 0 (-1)) (manyT r b)) i = someU (reachT X.n v (manyT r b) 0 i) allw (X.n - i) i := by
    rw [sat_un, hv]
    simp [unS, nSp, has_all]
  have e2 : satT X (.bin (nSp 6 0 0) b (.un (nSp 17 0 (-1)) (.bin (nSp 21 0 0) r (manyT r b)))) i = (satT X b i || someU (reachT X.n v2 (.bin (nSp 21 0 0) r (manyT r b)) 0 i) allw (X.n - i) i) := by
    rw [sat_or, sat_un, hv2]
    simp [unS, nSp, has_all]
  rw [e1, e2, Bool.eq_iff_iff, Bool.or_eq_true, someU_iff, someU_iff]
  constructor
  · rintro ⟨j, h3, h4, h5, _⟩
    have hj : j < X.n := by omega
    obtain ⟨h6, h7⟩ := (h1 j hj).1 h5
    rw [star_again hf hi hj] at h6
    simp only [Bool.or_eq_true, decide_eq_true_eq, List.any_eq_true, List.mem_range, Bool.and_eq_true] at h6
    rcases h6 with rfl | ⟨k, hk, h8, h9⟩
    · exact .inl h7
    · exact .inr ⟨j, h3, h4, (h2 j hj).2 ⟨k, hk, h8, h9, h7⟩, fun _ _ _ => rfl⟩
  · rintro (h3 | ⟨j, h3, h4, h5, _⟩)
    · refine ⟨i, Nat.le_refl _, by omega, (h1 i hi).2 ⟨?_, h3⟩, fun _ _ _ => rfl⟩
      rw [star_again hf hi hi]
      simp
    · have hj : j < X.n := by omega
      obtain ⟨k, hk, h6, h7, h8⟩ := (h2 j hj).1 h5
      refine ⟨j, h3, h4, (h1 j hj).2 ⟨?_, h8⟩, fun _ _ _ => rfl⟩
      rw [star_again hf hi hj]
      simp only [Bool.or_eq_true, decide_eq_true_eq, List.any_eq_true, List.mem_range, Bool.and_eq_true]
      exact .inr ⟨k, hk, h6, h7⟩
end Go.Proofs.YtdbbooibkiicnaaDoor
/-! Law 15's small functions: one, two, not, alike. -/
namespace Go.Proofs.YtdbbooibkiicnaaDoor
open Go.RowKit
theorem sat_eq (X : TrcS) : ∀ {s t : Tr}, EqT s t → satB X s = satB X t
  | .leaf h, .leaf h', e => by
    have e' : ({ h with kids := [] } : Nd) = { h' with kids := [] } := e
    show (leafS X { h with kids := [] }, []) = (leafS X { h' with kids := [] }, [])
    rw [e']
  | .un h a, .un h' a', e => by
    have ih := sat_eq X e.2
    have hk := kind_of_nd e.1
    show (unS X { h with kids := [] } (satB X a).1 (reachT X.n (valL (satB X a).2) a 0), if h.kind = 19 then [(satB X a).1] else (satB X a).2) = (unS X { h' with kids := [] } (satB X a').1 (reachT X.n (valL (satB X a').2) a' 0), if h'.kind = 19 then [(satB X a').1] else (satB X a').2)
    rw [ih, e.1, hk, shape_reach X.n _ 0 (eq_shape e.2)]
  | .bin h a b, .bin h' a' b', e => by
    have ih := sat_eq X e.2.1
    have ih2 := sat_eq X e.2.2
    show (binS X { h with kids := [] } (satB X a).1 (satB X b).1, (satB X a).2 ++ (satB X b).2) = (binS X { h' with kids := [] } (satB X a').1 (satB X b').1, (satB X a').2 ++ (satB X b').2)
    rw [ih, ih2, e.1]
theorem allA_flat (ss : List ByteArray) (es : List Evt) {t : Tr} (hv : validT t = true) : allA ss es (t.flat 0) = satT (trcE ss es) t := by
  obtain ⟨t', h1, _, _⟩ := tree_of_valid hv
  unfold allA
  rw [h1]
  have he : EqT t' t := eq_of_flat t' t 0 (tree_flat h1).symm
  show (satB (trcE ss es) t').1 = (satB (trcE ss es) t).1
  rw [sat_eq _ he]
theorem formL_flat {t : Tr} (hv : validT t = true) (hr : regS t.root.kind = false) : formL (t.flat 0) = true := by
  obtain ⟨t', h1, _, h3⟩ := tree_of_valid hv
  unfold formL
  rw [h1]
  simp only
  rw [h3, hr]
  rfl
theorem v_un {k lo hi : Int} {a : Tr} (hf : fieldsS { nSp k lo hi with kids := [0] } = true) (hr : regS a.root.kind = wantsS k) (hv : validT a = true) : validT (.un (nSp k lo hi) a) = true := by
  simp only [validT, Bool.and_eq_true, beq_iff_eq]
  exact ⟨⟨hf, hr⟩, hv⟩
theorem v_bin {k lo hi : Int} {a b : Tr} (hf : fieldsS { nSp k lo hi with kids := [0, 0] } = true) (hr : regS a.root.kind = wantsS k) (hr2 : regS b.root.kind = wantsS k) (hv : validT a = true) (hv2 : validT b = true) : validT (.bin (nSp k lo hi) a b) = true := by
  simp only [validT, Bool.and_eq_true, beq_iff_eq]
  exact ⟨⟨⟨⟨hf, hr⟩, hr2⟩, hv⟩, hv2⟩
theorem f_tim {k lo hi : Int} {ks : List Int} (hk : timedS k = true) (h3 : k ≠ 3) (ha : (ks.length : Int) = arityS k) (hs : spanS lo hi = true) : fieldsS { nSp k lo hi with kids := ks } = true := by
  unfold fieldsS nSp
  simp only [hk, h3, if_false, if_true, hs, ha, decide_true, Bool.and_true]
  rfl
/-- A list of nodes comes back. -/
def RetLs (w : World) (l : List Nd) (e : Ending) (w' : World) : Prop := ∃ A c, e = .returned (.slice A l.length c) ∧ l.length ≤ c ∧ NodesF (heapF w') A l.length l ∧ Below w.heap.size w w'
theorem RetN.ls {F : Fz} {w : World} {l : List Nd} {e : Ending} {w' : World} (h : RetN F w l e w') : RetLs w l e w' := let ⟨A, c, _, h1, h2, h3, h4, h5, _⟩ := h; ⟨A, c, h1, h2, h3.cle h5.cle, h4⟩
theorem kids_flat {t : Tr} (h : t.size ≤ 900) : KidsB (t.flat 0) := flat_kids t 0 (by omega)
set_option maxRecDepth 100000 in
theorem sone_w {F : Fz} {w : World} (hF : Sat F w) (k lo hi : Int) (t : Tr) (hs : t.size ≤ 900) (A : Option Addr) (n c : Nat) (hl : NodesF F A n (t.flat 0)) :
    Calls Tryd.prog 9 #[.int .i64 k, .agg #[.int .i64 lo, .int .i64 hi], .slice A n c] w (RetLs w ((Tr.un (nSp k lo hi) t).flat 0)) := by
  have hb0 := balloc w (.cells #[.int .i64 lo, .int .i64 hi] 33)
  have HO := Lib.hid (over_w (hF.below hb0) (nSp k lo hi) none 0 0 (t.flat 0) [] (by rw [Tr.length_flat]; omega) (by simp) A none n 0 c 0 hl (NodesF.nil _ _) (fun n hn => by cases hn))
  have HL : Hid (overL (nSp k lo hi) (t.flat 0) [] = (Tr.un (nSp k lo hi) t).flat 0) := Lib.hid (over_un _ _)
  clear hl
  go_enter Tryd.func9, Tryd.ntmps9
  go_wp2_with fail
  go_at_call 18
  refine HO.out.mono ?_
  intro e w1 h
  rw [HL.out] at h
  obtain ⟨A1, c1, rfl, hc1, hN1, hb1⟩ := h.ls
  obtain ⟨L, hL⟩ : ∃ L, ((Tr.un (nSp k lo hi) t).flat 0).length = L := ⟨_, rfl⟩
  have HLL := Lib.hid hL
  rw [hL] at hc1 hN1 ⊢
  clear hL h
  go_wp2_with fail
  go_ret
  exact ⟨A1, c1, by rw [HLL.out]; rfl, by rw [HLL.out]; exact hc1, by rw [HLL.out]; exact hN1, bthen hb0 hb1⟩
set_option maxRecDepth 100000 in
theorem stwo_w {F : Fz} {w : World} (hF : Sat F w) (k lo hi : Int) (t u : Tr) (hs : t.size ≤ 900) (hu : u.size ≤ 900) (A B : Option Addr) (n c m d : Nat) (hl : NodesF F A n (t.flat 0)) (hr : NodesF F B m (u.flat 0)) :
    Calls Tryd.prog 11 #[.int .i64 k, .agg #[.int .i64 lo, .int .i64 hi], .slice A n c, .slice B m d] w (RetLs w ((Tr.bin (nSp k lo hi) t u).flat 0)) := by
  have hb0 := balloc w (.cells #[.int .i64 lo, .int .i64 hi] 33)
  have HO := Lib.hid (over_w (hF.below hb0) (nSp k lo hi) none 0 0 (t.flat 0) (u.flat 0) (by rw [Tr.length_flat]; omega) (by rw [Tr.length_flat]; omega) A B n m c d hl hr (kids_flat hu))
  have HL : Hid (overL (nSp k lo hi) (t.flat 0) (u.flat 0) = (Tr.bin (nSp k lo hi) t u).flat 0) := Lib.hid (over_bin _ _ _)
  clear hl hr
  go_enter Tryd.func11, Tryd.ntmps11
  go_wp2_with fail
  go_at_call 18
  refine HO.out.mono ?_
  intro e w1 h
  rw [HL.out] at h
  obtain ⟨A1, c1, rfl, hc1, hN1, hb1⟩ := h.ls
  obtain ⟨L, hL⟩ : ∃ L, ((Tr.bin (nSp k lo hi) t u).flat 0).length = L := ⟨_, rfl⟩
  have HLL := Lib.hid hL
  rw [hL] at hc1 hN1 ⊢
  clear hL h
  go_wp2_with fail
  go_ret
  exact ⟨A1, c1, by rw [HLL.out]; rfl, by rw [HLL.out]; exact hc1, by rw [HLL.out]; exact hN1, bthen hb0 hb1⟩
set_option maxRecDepth 100000 in
theorem snot_w {F : Fz} {w : World} (hF : Sat F w) (g0 : F.cell ⟨0, 0, none⟩ = some (.int .i64 0)) (g1 : F.cell ⟨0, 1, none⟩ = some (.int .i64 0)) (t : Tr) (hs : t.size ≤ 900) (A : Option Addr) (n c : Nat) (hl : NodesF F A n (t.flat 0)) :
    Calls Tryd.prog 10 #[.slice A n c] w (RetLs w ((Tr.un (nSp 4 0 0) t).flat 0)) := by
  have HO := Lib.hid (sone_w hF 4 0 0 t hs A n c hl)
  have z0 := hF.cell g0
  have z1 := hF.cell g1
  obtain ⟨l, hl'⟩ : ∃ l, (Tr.un (nSp 4 0 0) t).flat 0 = l := ⟨_, rfl⟩
  rw [hl'] at HO ⊢
  clear hl g0 g1 hl'
  go_enter Tryd.func10, Tryd.ntmps10
  go_wp2_with fail
  go_at_call 9
  refine HO.out.mono ?_
  rintro e w1 ⟨A1, c1, rfl, hc1, hN1, hb1⟩
  obtain ⟨L, hL⟩ : ∃ L, l.length = L := ⟨_, rfl⟩
  have HLL := Lib.hid hL
  rw [hL] at hc1 hN1 ⊢
  clear hL
  go_wp2_with fail
  go_ret
  exact ⟨A1, c1, by rw [HLL.out]; rfl, by rw [HLL.out]; exact hc1, by rw [HLL.out]; exact hN1, hb1⟩
theorem eqNil_w (w : World) : Calls Tryd.prog 17 #[.slice none 0 0, .slice none 0 0] w fun e w' => e = .returned (.bool true) ∧ ∃ k, w' = w.drewN k := by
  go_enter Tryd.func17, Tryd.ntmps17
  go_wp2_with fail
  go_loopw [13] (fun i wr => i = .int .i64 0 ∧ wr = w) (fun _ _ => 0)
  case atStart => exact ⟨rfl, rfl⟩
  case round =>
    obtain ⟨rfl, rfl⟩ := hrel
    go_wp2_with fail
    go_ret
    exact ⟨rfl, 0, rfl⟩
/-- A trace as it lies in memory. -/
structure TrF (F : Fz) (ss : List ByteArray) (es : List Evt) (An : Option Addr) (nn cn : Nat) (Ae : Option Addr) (ne ce : Nat) : Prop where
  hcn : nn ≤ cn
  nm : Rd F 1 An nn (ss.map Value.string)
  ev : EvsF F Ae ne es
  ids : ∀ e ∈ es, e.ids.length ≤ 1000000000
  ne1 : ne ≤ 1000
  may : mayT ss es = true
theorem TrF.cle {F F' : Fz} {ss : List ByteArray} {es : List Evt} {An : Option Addr} {nn cn : Nat} {Ae : Option Addr} {ne ce : Nat} (h : TrF F ss es An nn cn Ae ne ce) (hle : CLe F F') : TrF F' ss es An nn cn Ae ne ce :=
  ⟨h.hcn, h.nm.cle hle, h.ev.cle hle, h.ids, h.ne1, h.may⟩
set_option maxRecDepth 100000 in
set_option maxHeartbeats 1000000 in
theorem lalike_w {F : Fz} {w : World} (hF : Sat F w) (ss : List ByteArray) (es : List Evt) (An : Option Addr) (nn cn : Nat) (Ae : Option Addr) (ne ce : Nat) (hT : TrF F ss es An nn cn Ae ne ce) (t u : Tr) (hvt : validT t = true) (hvu : validT u = true) (hrt : regS t.root.kind = false) (hru : regS u.root.kind = false) (hst : t.size ≤ 1000) (hsu : u.size ≤ 1000)
    (heq : ∀ i, i < ne → satT (trcE ss es) u i = satT (trcE ss es) t i) (A B : Option Addr) (n c m d : Nat) (hnc : n ≤ c) (hmd : m ≤ d) (hl : NodesF F A n (t.flat 0)) (hr : NodesF F B m (u.flat 0)) :
    Calls Tryd.prog 8 #[.agg #[.slice An nn cn, .slice Ae ne ce], .slice A n c, .slice B m d] w fun e w' => e = .returned (.bool true) ∧ Below w.heap.size w w' := by
  have hb0 := balloc w (.cells #[.slice An nn cn, .slice Ae ne ce] 28)
  have HB0 := Lib.hid (Blk.new w 28 #[.slice An nn cn, .slice Ae ne ce])
  have hF0 := hF.below hb0
  obtain ⟨t0, t1, _, _⟩ := blkA HB0.out
  have hne := hT.ev.1
  have HA1 := Lib.hid (fun (X : World) (h : Sat F X) => sAll_w h ss es An nn cn hT.hcn hT.nm Ae ne ce hT.ev hT.ids hT.ne1 (t.flat 0) (by rw [Tr.length_flat]; omega) A n c hnc hl (decide (0 < ne)) (by rw [okA, hT.may, formL_flat hvt hrt, hne]; rfl) _ (allA_flat ss es hvt))
  have HA2 := Lib.hid (fun (X : World) (h : Sat F X) => sAll_w h ss es An nn cn hT.hcn hT.nm Ae ne ce hT.ev hT.ids hT.ne1 (u.flat 0) (by rw [Tr.length_flat]; omega) B m d hmd hr (decide (0 < ne)) (by rw [okA, hT.may, formL_flat hvu hru, hne]; rfl) _ (allA_flat ss es hvu))
  have HEQ := Lib.hid heq
  have hneb := hT.ne1
  have hnn : ((ne : Int) == (ne : Int)) = true := by simp
  clear hl hr heq hT hne
  go_enter Tryd.func8, Tryd.ntmps8
  go_wp2_with fail
  go_at_call 16
  refine (HA1.out _ hF0).mono ?_
  rintro e w5 (⟨hok5, rfl, hb5⟩ | ⟨hok5, g1, rfl, hb5, hg1, hk1⟩)
  · obtain rfl : ne = 0 := by have := of_decide_eq_false hok5; omega
    obtain ⟨x0, x1, _, _⟩ := blkA (HB0.out.call hb5)
    have hF5 := hF0.below hb5
    go_wp2_with fail
    go_at_call 16
    refine (HA2.out _ hF5).mono ?_
    rintro e w6 (⟨_, rfl, hb6⟩ | ⟨h, _⟩)
    · go_wp2_with fail
      go_at_call 17
      refine (eqNil_w _).mono ?_
      rintro e w7 ⟨rfl, k7, rfl⟩
      go_wp2_with fail
      go_ret
      exact ⟨rfl, below_drewN (bthen hb0 (bthen hb5 hb6)) k7⟩
    · exact absurd h (by simp)
  · obtain ⟨x0, x1, _, _⟩ := blkA (HB0.out.call hb5)
    have hF5 := hF0.below hb5
    have HK1 := Lib.hid hk1
    clear hk1 hg1
    go_wp2_with fail
    go_at_call 16
    refine (HA2.out _ hF5).mono ?_
    rintro e w6 (⟨h, _⟩ | ⟨_, g2, rfl, hb6, hg2, hk2⟩)
    · rw [hok5] at h; cases h
    · rw [rowV_congr (fun i hi => HEQ.out i hi)] at hk2
      have HE := Lib.hid (equalBools_w (w := w6) hneb (HK1.out.call hb6) hk2)
      clear hk2 hg2
      go_wp2_with fail
      go_at_call 17
      refine HE.out.mono ?_
      rintro e w7 ⟨rfl, k7, rfl⟩
      go_wp2_with fail
      go_ret
      exact ⟨rfl, below_drewN (bthen hb0 (bthen hb5 hb6)) k7⟩
end Go.Proofs.YtdbbooibkiicnaaDoor
