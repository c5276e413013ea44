/- The walks of sat's closures: what a kid says, and what is not so. -/
import Derived.Test.YtdbbooibkiicnaaSatM
set_option linter.unusedVariables false
set_option linter.unusedSimpArgs false
/-! The walks of sat's closures: what a kid says, and what is not so. -/
namespace Go.Proofs.Ytdbbooibkiicnaa
open Go.RowKit
/-- A row of Booleans, frozen. -/
def RowF (F : Fz) (g n : Nat) (r : Nat → Bool) : Prop := F g = some (.cells (rowV n r) 4 (0, 0))
theorem RowF.cell {F : Fz} {g n : Nat} {r : Nat → Bool} (h : RowF F g n r) {j : Nat} (hj : j < n) : F.cell ⟨g, j, none⟩ = some (.bool (r j)) := by
  unfold RowF at h
  unfold Fz.cell
  rw [h]
  show (rowV n r)[j]? = _
  exact get_rowV hj
/-- What of memory a node's kid says: x's box in gb, the node's in gn, the table at in ga; kid number k is node q, and its row r stands in block g. -/
structure KidF (F : Fz) (gx gb gn ga N : Nat) (ak : Addr) (nk ck : Nat) (k q g n : Nat) (r : Nat → Bool) : Prop where
  b0 : F.cell ⟨gb, 0, none⟩ = some (.pointer (some ⟨gx, 0, none⟩))
  x3 : F.cell ⟨gx, 3, none⟩ = some (.slice (some ⟨ga, 0, none⟩) N N)
  n4 : F.cell ⟨gn, 4, none⟩ = some (.slice (some ak) nk ck)
  kk : k < nk
  kd : F.cell (ak.add k) = some (.int .i64 (q : Nat))
  qN : q < N
  at_ : F.cell ⟨ga, q, none⟩ = some (.slice (some ⟨g, 0, none⟩) n n)
  row : RowF F g n r
set_option maxRecDepth 100000 in
theorem kid_fn {F : Fz} {gx gb gn ga N : Nat} {ak : Addr} {nk ck k q g n : Nat} {r : Nat → Bool} (h : KidF F gx gb gn ga N ak nk ck k q g n r) (gk : Nat) (hk : F.cell ⟨gk, 0, none⟩ = some (.int .i64 (k : Nat))) :
    IsFn F 87 #[.pointer (some ⟨gb, 0, none⟩), .pointer (some ⟨gn, 0, none⟩), .pointer (some ⟨gk, 0, none⟩)] n r := by
  refine ⟨enters_of Try.func87 (by kernel_rfl) rfl, fun X hX i hi => ?_⟩
  show Calls Try.prog 87 #[.int .i64 (i : Nat), .pointer (some ⟨gb, 0, none⟩), .pointer (some ⟨gn, 0, none⟩), .pointer (some ⟨gk, 0, none⟩)] X _
  have c0 := hX.cell h.b0
  have c1 := hX.cell h.x3
  have c2 := hX.cell h.n4
  have c3 := hX.cell h.kd
  have c4 := hX.cell h.at_
  have c5 := hX.cell (h.row.cell hi)
  have c6 := hX.cell hk
  have hkI : (k : Int) < (nk : Int) := by have := h.kk; omega
  have hqI : (q : Int) < (N : Int) := by have := h.qN; omega
  have hiI : (i : Int) < (n : Int) := by omega
  clear h hk
  go_enter Try.func87, Try.ntmps87
  go_wp2_with fail
  go_quiet (fail)
  go_wp2_with fail
  go_ret
  exact ⟨rfl, below_drewN (Below.refl _ _) _⟩
set_option maxRecDepth 100000 in
theorem not_fn {F : Fz} {gx gb gn ga N : Nat} {ak : Addr} {nk ck q g n : Nat} {r : Nat → Bool} (h : KidF F gx gb gn ga N ak nk ck 0 q g n r) :
    IsFn F 88 #[.pointer (some ⟨gb, 0, none⟩), .pointer (some ⟨gn, 0, none⟩)] n (fun j => !r j) := by
  refine ⟨enters_of Try.func88 (by kernel_rfl) rfl, fun X hX i hi => ?_⟩
  show Calls Try.prog 88 #[.int .i64 (i : Nat), .pointer (some ⟨gb, 0, none⟩), .pointer (some ⟨gn, 0, none⟩)] X _
  have c0 := hX.cell h.b0
  have c1 := hX.cell h.x3
  have c2 := hX.cell h.n4
  have c3 := hX.cell h.kd
  rw [show ak.add 0 = ak by unfold Addr.add; simp] at c3
  have c4 := hX.cell h.at_
  have c5 := hX.cell (h.row.cell hi)
  have hkI : (0 : Int) < (nk : Int) := by have := h.kk; omega
  have hqI : (q : Int) < (N : Int) := by have := h.qN; omega
  have hiI : (i : Int) < (n : Int) := by omega
  clear h
  go_enter Try.func88, Try.ntmps88
  go_wp2_with fail
  go_quiet (fail)
  go_wp2_with fail
  go_ret
  exact ⟨rfl, below_drewN (Below.refl _ _) _⟩
end Go.Proofs.Ytdbbooibkiicnaa
/-! The walk of sat's near. -/
namespace Go.Proofs.Ytdbbooibkiicnaa
open Go.RowKit
set_option maxRecDepth 100000 in
set_option maxHeartbeats 4000000 in
theorem near_w {F : Fz} {w : World} (hF : Sat F w) (gx : Nat) (An : Option Addr) (nn cn : Nat) (Ae : Option Addr) (ne ce : Nat) (es : List Evt) (hT : TruF F gx An nn cn Ae ne ce es) (hn : ne ≤ 1000) (ga N : Nat) (ak : Addr) (nk ck q g : Nat) (r : Nat → Bool)
    (hx3 : F.cell ⟨gx, 3, none⟩ = some (.slice (some ⟨ga, 0, none⟩) N N)) (hk0 : 0 < nk) (hkd : F.cell ak = some (.int .i64 (q : Nat))) (hqN : q < N) (hat : F.cell ⟨ga, q, none⟩ = some (.slice (some ⟨g, 0, none⟩) ne ne)) (hrow : RowF F g ne r)
    (kind : Int) (name : ByteArray) (lo hi : Int) (hs : spanS lo hi = true) (i : Nat) (hi' : i < ne) (J : Int) (R : Bool) (hR : (if 0 ≤ J ∧ J < (ne : Int) then hasD lo hi (gapE es i J.toNat) && r J.toNat else false) = R) :
    Calls Try.prog 90 #[.pointer (some ⟨gx, 0, none⟩), .agg #[.int .i64 kind, .string name, .int .i64 lo, .int .i64 hi, .slice (some ak) nk ck], .int .i64 (i : Nat), .int .i64 J] w fun e w' => e = .returned (.bool R) ∧ Below w.heap.size w w' := by
  have hbA := balloc w (.cells #[.int .i64 kind, .string name, .int .i64 lo, .int .i64 hi, .slice (some ak) nk ck] 29)
  have HBN := Lib.hid (Blk.new w 29 #[.int .i64 kind, .string name, .int .i64 lo, .int .i64 hi, .slice (some ak) nk ck])
  have hFA := hF.below hbA
  obtain ⟨wA, hwA⟩ : ∃ wA, wA = w.alloc (.cells #[.int .i64 kind, .string name, .int .i64 lo, .int .i64 hi, .slice (some ak) nk ck] 29) := ⟨_, rfl⟩
  rw [← hwA] at hbA HBN hFA
  obtain ⟨m0, m1, m2, m3, m4⟩ := blk5 HBN.out
  have x0 := hFA.cell hT.t0
  have x1 := hFA.cell hT.t1
  have HT := Lib.hid hT
  have HWA := Lib.hid hwA
  have hkI : (0 : Int) < (nk : Int) := by omega
  have hqI : (q : Int) < (N : Int) := by omega
  clear hwA
  by_cases hneg : J < 0
  · rw [if_neg (by omega)] at hR
    subst hR
    have hd : decide (0 ≤ J) = false := decide_eq_false (by omega)
    clear hT hx3 hkd hat hrow hs
    go_enter Try.func90, Try.ntmps90
    go_wp2_with fail
    rw [← HWA.out]
  -- NEAR NEG
    refine wp_region_noPanic ?_
    refine wp_region_held_drew (S := (fun w' => w'.cell? ⟨w.heap.size, 2, none⟩ = some (.int .i64 lo) ∧ w'.cell? ⟨w.heap.size, 3, none⟩ = some (.int .i64 hi) ∧ w'.cell? ⟨w.heap.size, 4, none⟩ = some (.slice (some ak) nk ck) ∧ w'.cell? ⟨gx, 0, none⟩ = some (.slice An nn cn) ∧ w'.cell? ⟨gx, 1, none⟩ = some (.slice Ae ne ce))) (by kernel_rfl) ?hS0 (fun hHeld => ?hR0)
    case hS0 => (try dsimp only); go_keep
    case hR0 =>
      refine wpAnyH_take (i := 0) (oi := ?tO1) (v := ?tV1) ?tA1 (by kernel_rfl) (by kernel_rfl) (by kernel_rfl) (fun _ _ _ h => h) (Or.inl ⟨?tB1, ?tC1⟩) (by assumption) ?tD1
      case tA1 => (first | (simp only [List.getElem?_toArray, List.getElem?_cons_succ, List.getElem?_cons_zero]; done) | (simp only [List.getElem?_toArray, List.getElem?_cons_succ, List.getElem?_cons_zero]; rfl))
      case tB1 => rfl
      case tC1 => (intro w hSw; (try dsimp only at hSw); go_simp; try with_reducible rfl)
      try simp only [Act.put, List.setIfInBounds_toArray, List.set_cons_zero, List.set_cons_succ]
      refine wpAnyH_take (i := 1) (oi := ?tO2) (v := ?tV2) ?tA2 (by kernel_rfl) (by kernel_rfl) (by kernel_rfl) (fun _ _ _ h => h) (Or.inl ⟨?tB2, ?tC2⟩) (by assumption) ?tD2
      case tA2 => (first | (simp only [List.getElem?_toArray, List.getElem?_cons_succ, List.getElem?_cons_zero]; done) | (simp only [List.getElem?_toArray, List.getElem?_cons_succ, List.getElem?_cons_zero]; rfl))
      case tB2 => rfl
      case tC2 => (intro w hSw; (try dsimp only at hSw); go_simp; try with_reducible rfl)
      try simp only [Act.put, List.setIfInBounds_toArray, List.set_cons_zero, List.set_cons_succ]
      refine wpAnyH_take (i := 2) (oi := ?tO3) (v := ?tV3) ?tA3 (by kernel_rfl) (by kernel_rfl) (by kernel_rfl) (fun _ _ _ h => h) (Or.inl ⟨?tB3, ?tC3⟩) (by assumption) ?tD3
      case tA3 => (first | (simp only [List.getElem?_toArray, List.getElem?_cons_succ, List.getElem?_cons_zero]; done) | (simp only [List.getElem?_toArray, List.getElem?_cons_succ, List.getElem?_cons_zero]; rfl))
      case tB3 => rfl
      case tC3 => (intro w hSw; (try dsimp only at hSw); go_simp; try with_reducible rfl)
      try simp only [Act.put, List.setIfInBounds_toArray, List.set_cons_zero, List.set_cons_succ]
      refine wpAnyH_take (i := 3) (oi := ?tO104) (v := undef) ?tA104 (by kernel_rfl) (by kernel_rfl) (by kernel_rfl) (fun _ _ _ h => h) (Or.inr ⟨?tB104, ?tC104⟩) (by assumption) ?tD104
      case tA104 => (first | (simp only [List.getElem?_toArray, List.getElem?_cons_succ, List.getElem?_cons_zero]; done) | (simp only [List.getElem?_toArray, List.getElem?_cons_succ, List.getElem?_cons_zero]; rfl))
      case tB104 => rfl
      case tC104 => rfl
      try simp only [Act.put, List.setIfInBounds_toArray, List.set_cons_zero, List.set_cons_succ]
      refine wpAnyH_take (i := 4) (oi := ?tO105) (v := undef) ?tA105 (by kernel_rfl) (by kernel_rfl) (by kernel_rfl) (fun _ _ _ h => h) (Or.inr ⟨?tB105, ?tC105⟩) (by assumption) ?tD105
      case tA105 => (first | (simp only [List.getElem?_toArray, List.getElem?_cons_succ, List.getElem?_cons_zero]; done) | (simp only [List.getElem?_toArray, List.getElem?_cons_succ, List.getElem?_cons_zero]; rfl))
      case tB105 => rfl
      case tC105 => rfl
      try simp only [Act.put, List.setIfInBounds_toArray, List.set_cons_zero, List.set_cons_succ]
      refine wpAnyH_take (i := 5) (oi := ?tO106) (v := undef) ?tA106 (by kernel_rfl) (by kernel_rfl) (by kernel_rfl) (fun _ _ _ h => h) (Or.inr ⟨?tB106, ?tC106⟩) (by assumption) ?tD106
      case tA106 => (first | (simp only [List.getElem?_toArray, List.getElem?_cons_succ, List.getElem?_cons_zero]; done) | (simp only [List.getElem?_toArray, List.getElem?_cons_succ, List.getElem?_cons_zero]; rfl))
      case tB106 => rfl
      case tC106 => rfl
      try simp only [Act.put, List.setIfInBounds_toArray, List.set_cons_zero, List.set_cons_succ]
      refine wpAnyH_take (i := 6) (oi := ?tO107) (v := undef) ?tA107 (by kernel_rfl) (by kernel_rfl) (by kernel_rfl) (fun _ _ _ h => h) (Or.inr ⟨?tB107, ?tC107⟩) (by assumption) ?tD107
      case tA107 => (first | (simp only [List.getElem?_toArray, List.getElem?_cons_succ, List.getElem?_cons_zero]; done) | (simp only [List.getElem?_toArray, List.getElem?_cons_succ, List.getElem?_cons_zero]; rfl))
      case tB107 => rfl
      case tC107 => rfl
      try simp only [Act.put, List.setIfInBounds_toArray, List.set_cons_zero, List.set_cons_succ]
      refine wpAnyH_take (i := 7) (oi := ?tO108) (v := undef) ?tA108 (by kernel_rfl) (by kernel_rfl) (by kernel_rfl) (fun _ _ _ h => h) (Or.inr ⟨?tB108, ?tC108⟩) (by assumption) ?tD108
      case tA108 => (first | (simp only [List.getElem?_toArray, List.getElem?_cons_succ, List.getElem?_cons_zero]; done) | (simp only [List.getElem?_toArray, List.getElem?_cons_succ, List.getElem?_cons_zero]; rfl))
      case tB108 => rfl
      case tC108 => rfl
      try simp only [Act.put, List.setIfInBounds_toArray, List.set_cons_zero, List.set_cons_succ]
      refine wpAnyH_take (i := 8) (oi := ?tO109) (v := undef) ?tA109 (by kernel_rfl) (by kernel_rfl) (by kernel_rfl) (fun _ _ _ h => h) (Or.inr ⟨?tB109, ?tC109⟩) (by assumption) ?tD109
      case tA109 => (first | (simp only [List.getElem?_toArray, List.getElem?_cons_succ, List.getElem?_cons_zero]; done) | (simp only [List.getElem?_toArray, List.getElem?_cons_succ, List.getElem?_cons_zero]; rfl))
      case tB109 => rfl
      case tC109 => rfl
      try simp only [Act.put, List.setIfInBounds_toArray, List.set_cons_zero, List.set_cons_succ]
      refine wpAnyH_take (i := 9) (oi := ?tO110) (v := undef) ?tA110 (by kernel_rfl) (by kernel_rfl) (by kernel_rfl) (fun _ _ _ h => h) (Or.inr ⟨?tB110, ?tC110⟩) (by assumption) ?tD110
      case tA110 => (first | (simp only [List.getElem?_toArray, List.getElem?_cons_succ, List.getElem?_cons_zero]; done) | (simp only [List.getElem?_toArray, List.getElem?_cons_succ, List.getElem?_cons_zero]; rfl))
      case tB110 => rfl
      case tC110 => rfl
      try simp only [Act.put, List.setIfInBounds_toArray, List.set_cons_zero, List.set_cons_succ]
      refine wpAnyH_take (i := 10) (oi := ?tO111) (v := undef) ?tA111 (by kernel_rfl) (by kernel_rfl) (by kernel_rfl) (fun _ _ _ h => h) (Or.inr ⟨?tB111, ?tC111⟩) (by assumption) ?tD111
      case tA111 => (first | (simp only [List.getElem?_toArray, List.getElem?_cons_succ, List.getElem?_cons_zero]; done) | (simp only [List.getElem?_toArray, List.getElem?_cons_succ, List.getElem?_cons_zero]; rfl))
      case tB111 => rfl
      case tC111 => rfl
      try simp only [Act.put, List.setIfInBounds_toArray, List.set_cons_zero, List.set_cons_succ]
      refine wpAnyH_take (i := 11) (oi := ?tO4) (v := ?tV4) ?tA4 (by kernel_rfl) (by kernel_rfl) (by kernel_rfl) (fun _ _ _ h => h) (Or.inl ⟨?tB4, ?tC4⟩) (by assumption) ?tD4
      case tA4 => (first | (simp only [List.getElem?_toArray, List.getElem?_cons_succ, List.getElem?_cons_zero]; done) | (simp only [List.getElem?_toArray, List.getElem?_cons_succ, List.getElem?_cons_zero]; rfl))
      case tB4 => rfl
      case tC4 => (intro w hSw; (try dsimp only at hSw); go_simp; try with_reducible rfl)
      try simp only [Act.put, List.setIfInBounds_toArray, List.set_cons_zero, List.set_cons_succ]
      refine wpAnyH_take (i := 12) (oi := ?tO5) (v := ?tV5) ?tA5 (by kernel_rfl) (by kernel_rfl) (by kernel_rfl) (fun _ _ _ h => h) (Or.inl ⟨?tB5, ?tC5⟩) (by assumption) ?tD5
      case tA5 => (first | (simp only [List.getElem?_toArray, List.getElem?_cons_succ, List.getElem?_cons_zero]; done) | (simp only [List.getElem?_toArray, List.getElem?_cons_succ, List.getElem?_cons_zero]; rfl))
      case tB5 => rfl
      case tC5 => (intro w hSw; (try dsimp only at hSw); go_simp; try with_reducible rfl)
      try simp only [Act.put, List.setIfInBounds_toArray, List.set_cons_zero, List.set_cons_succ]
      refine wpAnyH_take (i := 13) (oi := ?tO112) (v := undef) ?tA112 (by kernel_rfl) (by kernel_rfl) (by kernel_rfl) (fun _ _ _ h => h) (Or.inr ⟨?tB112, ?tC112⟩) (by assumption) ?tD112
      case tA112 => (first | (simp only [List.getElem?_toArray, List.getElem?_cons_succ, List.getElem?_cons_zero]; done) | (simp only [List.getElem?_toArray, List.getElem?_cons_succ, List.getElem?_cons_zero]; rfl))
      case tB112 => rfl
      case tC112 => rfl
      try simp only [Act.put, List.setIfInBounds_toArray, List.set_cons_zero, List.set_cons_succ]
      refine wpAnyH_take (i := 14) (oi := ?tO113) (v := undef) ?tA113 (by kernel_rfl) (by kernel_rfl) (by kernel_rfl) (fun _ _ _ h => h) (Or.inr ⟨?tB113, ?tC113⟩) (by assumption) ?tD113
      case tA113 => (first | (simp only [List.getElem?_toArray, List.getElem?_cons_succ, List.getElem?_cons_zero]; done) | (simp only [List.getElem?_toArray, List.getElem?_cons_succ, List.getElem?_cons_zero]; rfl))
      case tB113 => rfl
      case tC113 => rfl
      try simp only [Act.put, List.setIfInBounds_toArray, List.set_cons_zero, List.set_cons_succ]
      refine wpAnyH_take (i := 15) (oi := ?tO114) (v := undef) ?tA114 (by kernel_rfl) (by kernel_rfl) (by kernel_rfl) (fun _ _ _ h => h) (Or.inr ⟨?tB114, ?tC114⟩) (by assumption) ?tD114
      case tA114 => (first | (simp only [List.getElem?_toArray, List.getElem?_cons_succ, List.getElem?_cons_zero]; done) | (simp only [List.getElem?_toArray, List.getElem?_cons_succ, List.getElem?_cons_zero]; rfl))
      case tB114 => rfl
      case tC114 => rfl
      try simp only [Act.put, List.setIfInBounds_toArray, List.set_cons_zero, List.set_cons_succ]
      refine wpAnyH_take (i := 16) (oi := ?tO115) (v := undef) ?tA115 (by kernel_rfl) (by kernel_rfl) (by kernel_rfl) (fun _ _ _ h => h) (Or.inr ⟨?tB115, ?tC115⟩) (by assumption) ?tD115
      case tA115 => (first | (simp only [List.getElem?_toArray, List.getElem?_cons_succ, List.getElem?_cons_zero]; done) | (simp only [List.getElem?_toArray, List.getElem?_cons_succ, List.getElem?_cons_zero]; rfl))
      case tB115 => rfl
      case tC115 => rfl
      try simp only [Act.put, List.setIfInBounds_toArray, List.set_cons_zero, List.set_cons_succ]
      refine wpAnyH_take (i := 17) (oi := ?tO116) (v := undef) ?tA116 (by kernel_rfl) (by kernel_rfl) (by kernel_rfl) (fun _ _ _ h => h) (Or.inr ⟨?tB116, ?tC116⟩) (by assumption) ?tD116
      case tA116 => (first | (simp only [List.getElem?_toArray, List.getElem?_cons_succ, List.getElem?_cons_zero]; done) | (simp only [List.getElem?_toArray, List.getElem?_cons_succ, List.getElem?_cons_zero]; rfl))
      case tB116 => rfl
      case tC116 => rfl
      try simp only [Act.put, List.setIfInBounds_toArray, List.set_cons_zero, List.set_cons_succ]
      refine wpAnyH_take (i := 18) (oi := ?tO117) (v := undef) ?tA117 (by kernel_rfl) (by kernel_rfl) (by kernel_rfl) (fun _ _ _ h => h) (Or.inr ⟨?tB117, ?tC117⟩) (by assumption) ?tD117
      case tA117 => (first | (simp only [List.getElem?_toArray, List.getElem?_cons_succ, List.getElem?_cons_zero]; done) | (simp only [List.getElem?_toArray, List.getElem?_cons_succ, List.getElem?_cons_zero]; rfl))
      case tB117 => rfl
      case tC117 => rfl
      try simp only [Act.put, List.setIfInBounds_toArray, List.set_cons_zero, List.set_cons_succ]
      refine wpAnyH_take (i := 19) (oi := ?tO118) (v := undef) ?tA118 (by kernel_rfl) (by kernel_rfl) (by kernel_rfl) (fun _ _ _ h => h) (Or.inr ⟨?tB118, ?tC118⟩) (by assumption) ?tD118
      case tA118 => (first | (simp only [List.getElem?_toArray, List.getElem?_cons_succ, List.getElem?_cons_zero]; done) | (simp only [List.getElem?_toArray, List.getElem?_cons_succ, List.getElem?_cons_zero]; rfl))
      case tB118 => rfl
      case tC118 => rfl
      try simp only [Act.put, List.setIfInBounds_toArray, List.set_cons_zero, List.set_cons_succ]
      refine wpAnyH_take (i := 20) (oi := ?tO119) (v := undef) ?tA119 (by kernel_rfl) (by kernel_rfl) (by kernel_rfl) (fun _ _ _ h => h) (Or.inr ⟨?tB119, ?tC119⟩) (by assumption) ?tD119
      case tA119 => (first | (simp only [List.getElem?_toArray, List.getElem?_cons_succ, List.getElem?_cons_zero]; done) | (simp only [List.getElem?_toArray, List.getElem?_cons_succ, List.getElem?_cons_zero]; rfl))
      case tB119 => rfl
      case tC119 => rfl
      try simp only [Act.put, List.setIfInBounds_toArray, List.set_cons_zero, List.set_cons_succ]
      refine wpAnyH_take (i := 21) (oi := ?tO120) (v := undef) ?tA120 (by kernel_rfl) (by kernel_rfl) (by kernel_rfl) (fun _ _ _ h => h) (Or.inr ⟨?tB120, ?tC120⟩) (by assumption) ?tD120
      case tA120 => (first | (simp only [List.getElem?_toArray, List.getElem?_cons_succ, List.getElem?_cons_zero]; done) | (simp only [List.getElem?_toArray, List.getElem?_cons_succ, List.getElem?_cons_zero]; rfl))
      case tB120 => rfl
      case tC120 => rfl
      try simp only [Act.put, List.setIfInBounds_toArray, List.set_cons_zero, List.set_cons_succ]
      refine wpAnyH_take (i := 22) (oi := ?tO121) (v := undef) ?tA121 (by kernel_rfl) (by kernel_rfl) (by kernel_rfl) (fun _ _ _ h => h) (Or.inr ⟨?tB121, ?tC121⟩) (by assumption) ?tD121
      case tA121 => (first | (simp only [List.getElem?_toArray, List.getElem?_cons_succ, List.getElem?_cons_zero]; done) | (simp only [List.getElem?_toArray, List.getElem?_cons_succ, List.getElem?_cons_zero]; rfl))
      case tB121 => rfl
      case tC121 => rfl
      try simp only [Act.put, List.setIfInBounds_toArray, List.set_cons_zero, List.set_cons_succ]
      refine wpAnyH_take (i := 23) (oi := ?tO6) (v := ?tV6) ?tA6 (by kernel_rfl) (by kernel_rfl) (by kernel_rfl) (fun _ _ _ h => h) (Or.inl ⟨?tB6, ?tC6⟩) (by assumption) ?tD6
      case tA6 => (first | (simp only [List.getElem?_toArray, List.getElem?_cons_succ, List.getElem?_cons_zero]; done) | (simp only [List.getElem?_toArray, List.getElem?_cons_succ, List.getElem?_cons_zero]; rfl))
      case tB6 => rfl
      case tC6 => (intro w hSw; (try dsimp only at hSw); go_simp; try with_reducible rfl)
      try simp only [Act.put, List.setIfInBounds_toArray, List.set_cons_zero, List.set_cons_succ]
      refine wpAnyH_take (i := 24) (oi := ?tO7) (v := ?tV7) ?tA7 (by kernel_rfl) (by kernel_rfl) (by kernel_rfl) (fun _ _ _ h => h) (Or.inl ⟨?tB7, ?tC7⟩) (by assumption) ?tD7
      case tA7 => (first | (simp only [List.getElem?_toArray, List.getElem?_cons_succ, List.getElem?_cons_zero]; done) | (simp only [List.getElem?_toArray, List.getElem?_cons_succ, List.getElem?_cons_zero]; rfl))
      case tB7 => rfl
      case tC7 => (intro w hSw; (try dsimp only at hSw); go_simp; try with_reducible rfl)
      try simp only [Act.put, List.setIfInBounds_toArray, List.set_cons_zero, List.set_cons_succ]
      refine wpAnyH_take (i := 25) (oi := ?tO122) (v := undef) ?tA122 (by kernel_rfl) (by kernel_rfl) (by kernel_rfl) (fun _ _ _ h => h) (Or.inr ⟨?tB122, ?tC122⟩) (by assumption) ?tD122
      case tA122 => (first | (simp only [List.getElem?_toArray, List.getElem?_cons_succ, List.getElem?_cons_zero]; done) | (simp only [List.getElem?_toArray, List.getElem?_cons_succ, List.getElem?_cons_zero]; rfl))
      case tB122 => rfl
      case tC122 => rfl
      try simp only [Act.put, List.setIfInBounds_toArray, List.set_cons_zero, List.set_cons_succ]
      refine wpAnyH_take (i := 26) (oi := ?tO123) (v := undef) ?tA123 (by kernel_rfl) (by kernel_rfl) (by kernel_rfl) (fun _ _ _ h => h) (Or.inr ⟨?tB123, ?tC123⟩) (by assumption) ?tD123
      case tA123 => (first | (simp only [List.getElem?_toArray, List.getElem?_cons_succ, List.getElem?_cons_zero]; done) | (simp only [List.getElem?_toArray, List.getElem?_cons_succ, List.getElem?_cons_zero]; rfl))
      case tB123 => rfl
      case tC123 => rfl
      try simp only [Act.put, List.setIfInBounds_toArray, List.set_cons_zero, List.set_cons_succ]
      refine wpAnyH_take (i := 27) (oi := ?tO124) (v := undef) ?tA124 (by kernel_rfl) (by kernel_rfl) (by kernel_rfl) (fun _ _ _ h => h) (Or.inr ⟨?tB124, ?tC124⟩) (by assumption) ?tD124
      case tA124 => (first | (simp only [List.getElem?_toArray, List.getElem?_cons_succ, List.getElem?_cons_zero]; done) | (simp only [List.getElem?_toArray, List.getElem?_cons_succ, List.getElem?_cons_zero]; rfl))
      case tB124 => rfl
      case tC124 => rfl
      try simp only [Act.put, List.setIfInBounds_toArray, List.set_cons_zero, List.set_cons_succ]
      refine wpAnyH_take (i := 28) (oi := ?tO125) (v := undef) ?tA125 (by kernel_rfl) (by kernel_rfl) (by kernel_rfl) (fun _ _ _ h => h) (Or.inr ⟨?tB125, ?tC125⟩) (by assumption) ?tD125
      case tA125 => (first | (simp only [List.getElem?_toArray, List.getElem?_cons_succ, List.getElem?_cons_zero]; done) | (simp only [List.getElem?_toArray, List.getElem?_cons_succ, List.getElem?_cons_zero]; rfl))
      case tB125 => rfl
      case tC125 => rfl
      try simp only [Act.put, List.setIfInBounds_toArray, List.set_cons_zero, List.set_cons_succ]
      refine wpAnyH_take (i := 29) (oi := ?tO126) (v := undef) ?tA126 (by kernel_rfl) (by kernel_rfl) (by kernel_rfl) (fun _ _ _ h => h) (Or.inr ⟨?tB126, ?tC126⟩) (by assumption) ?tD126
      case tA126 => (first | (simp only [List.getElem?_toArray, List.getElem?_cons_succ, List.getElem?_cons_zero]; done) | (simp only [List.getElem?_toArray, List.getElem?_cons_succ, List.getElem?_cons_zero]; rfl))
      case tB126 => rfl
      case tC126 => rfl
      try simp only [Act.put, List.setIfInBounds_toArray, List.set_cons_zero, List.set_cons_succ]
      refine wpAnyH_take (i := 30) (oi := ?tO127) (v := undef) ?tA127 (by kernel_rfl) (by kernel_rfl) (by kernel_rfl) (fun _ _ _ h => h) (Or.inr ⟨?tB127, ?tC127⟩) (by assumption) ?tD127
      case tA127 => (first | (simp only [List.getElem?_toArray, List.getElem?_cons_succ, List.getElem?_cons_zero]; done) | (simp only [List.getElem?_toArray, List.getElem?_cons_succ, List.getElem?_cons_zero]; rfl))
      case tB127 => rfl
      case tC127 => rfl
      try simp only [Act.put, List.setIfInBounds_toArray, List.set_cons_zero, List.set_cons_succ]
      refine wpAnyH_take (i := 31) (oi := ?tO128) (v := undef) ?tA128 (by kernel_rfl) (by kernel_rfl) (by kernel_rfl) (fun _ _ _ h => h) (Or.inr ⟨?tB128, ?tC128⟩) (by assumption) ?tD128
      case tA128 => (first | (simp only [List.getElem?_toArray, List.getElem?_cons_succ, List.getElem?_cons_zero]; done) | (simp only [List.getElem?_toArray, List.getElem?_cons_succ, List.getElem?_cons_zero]; rfl))
      case tB128 => rfl
      case tC128 => rfl
      try simp only [Act.put, List.setIfInBounds_toArray, List.set_cons_zero, List.set_cons_succ]
      refine wpAnyH_take (i := 32) (oi := ?tO129) (v := undef) ?tA129 (by kernel_rfl) (by kernel_rfl) (by kernel_rfl) (fun _ _ _ h => h) (Or.inr ⟨?tB129, ?tC129⟩) (by assumption) ?tD129
      case tA129 => (first | (simp only [List.getElem?_toArray, List.getElem?_cons_succ, List.getElem?_cons_zero]; done) | (simp only [List.getElem?_toArray, List.getElem?_cons_succ, List.getElem?_cons_zero]; rfl))
      case tB129 => rfl
      case tC129 => rfl
      try simp only [Act.put, List.setIfInBounds_toArray, List.set_cons_zero, List.set_cons_succ]
      refine wpAnyH_take (i := 33) (oi := ?tO130) (v := undef) ?tA130 (by kernel_rfl) (by kernel_rfl) (by kernel_rfl) (fun _ _ _ h => h) (Or.inr ⟨?tB130, ?tC130⟩) (by assumption) ?tD130
      case tA130 => (first | (simp only [List.getElem?_toArray, List.getElem?_cons_succ, List.getElem?_cons_zero]; done) | (simp only [List.getElem?_toArray, List.getElem?_cons_succ, List.getElem?_cons_zero]; rfl))
      case tB130 => rfl
      case tC130 => rfl
      try simp only [Act.put, List.setIfInBounds_toArray, List.set_cons_zero, List.set_cons_succ]
      refine wpAnyH_take (i := 34) (oi := ?tO131) (v := undef) ?tA131 (by kernel_rfl) (by kernel_rfl) (by kernel_rfl) (fun _ _ _ h => h) (Or.inr ⟨?tB131, ?tC131⟩) (by assumption) ?tD131
      case tA131 => (first | (simp only [List.getElem?_toArray, List.getElem?_cons_succ, List.getElem?_cons_zero]; done) | (simp only [List.getElem?_toArray, List.getElem?_cons_succ, List.getElem?_cons_zero]; rfl))
      case tB131 => rfl
      case tC131 => rfl
      try simp only [Act.put, List.setIfInBounds_toArray, List.set_cons_zero, List.set_cons_succ]
      refine wpAnyH_take (i := 35) (oi := ?tO132) (v := undef) ?tA132 (by kernel_rfl) (by kernel_rfl) (by kernel_rfl) (fun _ _ _ h => h) (Or.inr ⟨?tB132, ?tC132⟩) (by assumption) ?tD132
      case tA132 => (first | (simp only [List.getElem?_toArray, List.getElem?_cons_succ, List.getElem?_cons_zero]; done) | (simp only [List.getElem?_toArray, List.getElem?_cons_succ, List.getElem?_cons_zero]; rfl))
      case tB132 => rfl
      case tC132 => rfl
      try simp only [Act.put, List.setIfInBounds_toArray, List.set_cons_zero, List.set_cons_succ]
      refine wpAnyH_take (i := 36) (oi := ?tO133) (v := undef) ?tA133 (by kernel_rfl) (by kernel_rfl) (by kernel_rfl) (fun _ _ _ h => h) (Or.inr ⟨?tB133, ?tC133⟩) (by assumption) ?tD133
      case tA133 => (first | (simp only [List.getElem?_toArray, List.getElem?_cons_succ, List.getElem?_cons_zero]; done) | (simp only [List.getElem?_toArray, List.getElem?_cons_succ, List.getElem?_cons_zero]; rfl))
      case tB133 => rfl
      case tC133 => rfl
      try simp only [Act.put, List.setIfInBounds_toArray, List.set_cons_zero, List.set_cons_succ]
      refine wpAnyH_take (i := 37) (oi := ?tO134) (v := undef) ?tA134 (by kernel_rfl) (by kernel_rfl) (by kernel_rfl) (fun _ _ _ h => h) (Or.inr ⟨?tB134, ?tC134⟩) (by assumption) ?tD134
      case tA134 => (first | (simp only [List.getElem?_toArray, List.getElem?_cons_succ, List.getElem?_cons_zero]; done) | (simp only [List.getElem?_toArray, List.getElem?_cons_succ, List.getElem?_cons_zero]; rfl))
      case tB134 => rfl
      case tC134 => rfl
      try simp only [Act.put, List.setIfInBounds_toArray, List.set_cons_zero, List.set_cons_succ]
      refine wpAnyH_take (i := 38) (oi := ?tO8) (v := ?tV8) ?tA8 (by kernel_rfl) (by kernel_rfl) (by kernel_rfl) (fun _ _ _ h => h) (Or.inl ⟨?tB8, ?tC8⟩) (by assumption) ?tD8
      case tA8 => (first | (simp only [List.getElem?_toArray, List.getElem?_cons_succ, List.getElem?_cons_zero]; done) | (simp only [List.getElem?_toArray, List.getElem?_cons_succ, List.getElem?_cons_zero]; rfl))
      case tB8 => rfl
      case tC8 => (intro w hSw; (try dsimp only at hSw); go_simp; try with_reducible rfl)
      try simp only [Act.put, List.setIfInBounds_toArray, List.set_cons_zero, List.set_cons_succ]
      refine wpAnyH_take (i := 39) (oi := ?tO9) (v := ?tV9) ?tA9 (by kernel_rfl) (by kernel_rfl) (by kernel_rfl) (fun _ _ _ h => h) (Or.inl ⟨?tB9, ?tC9⟩) (by assumption) ?tD9
      case tA9 => (first | (simp only [List.getElem?_toArray, List.getElem?_cons_succ, List.getElem?_cons_zero]; done) | (simp only [List.getElem?_toArray, List.getElem?_cons_succ, List.getElem?_cons_zero]; rfl))
      case tB9 => rfl
      case tC9 => (intro w hSw; (try dsimp only at hSw); go_simp; try with_reducible rfl)
      try simp only [Act.put, List.setIfInBounds_toArray, List.set_cons_zero, List.set_cons_succ]
      refine wpAnyH_done (by kernel_rfl) ?_ _
      refine NoPanic.normal ?_
      go_wp2_with fail
      go_ret
      exact ⟨rfl, by first | exact hbA | exact hbA.drew | exact below_drewN hbA _⟩
  -- END
  by_cases hbig : (ne : Int) ≤ J
  · rw [if_neg (by omega)] at hR
    subst hR
    have hd : 0 ≤ J := by omega
    have hd2 : decide (J < (ne : Int)) = false := decide_eq_false (by omega)
    clear hT hx3 hkd hat hrow hs
    go_enter Try.func90, Try.ntmps90
    go_wp2_with fail
    rw [← HWA.out]
  -- NEAR BIG
    refine wp_region_noPanic ?_
    refine wp_region_held_drew (S := (fun w' => w'.cell? ⟨w.heap.size, 2, none⟩ = some (.int .i64 lo) ∧ w'.cell? ⟨w.heap.size, 3, none⟩ = some (.int .i64 hi) ∧ w'.cell? ⟨w.heap.size, 4, none⟩ = some (.slice (some ak) nk ck) ∧ w'.cell? ⟨gx, 0, none⟩ = some (.slice An nn cn) ∧ w'.cell? ⟨gx, 1, none⟩ = some (.slice Ae ne ce))) (by kernel_rfl) ?hS0 (fun hHeld => ?hR0)
    case hS0 => (try dsimp only); go_keep
    case hR0 =>
      refine wpAnyH_take (i := 0) (oi := ?tO10) (v := ?tV10) ?tA10 (by kernel_rfl) (by kernel_rfl) (by kernel_rfl) (fun _ _ _ h => h) (Or.inl ⟨?tB10, ?tC10⟩) (by assumption) ?tD10
      case tA10 => (first | (simp only [List.getElem?_toArray, List.getElem?_cons_succ, List.getElem?_cons_zero]; done) | (simp only [List.getElem?_toArray, List.getElem?_cons_succ, List.getElem?_cons_zero]; rfl))
      case tB10 => rfl
      case tC10 => (intro w hSw; (try dsimp only at hSw); go_simp; try with_reducible rfl)
      try simp only [Act.put, List.setIfInBounds_toArray, List.set_cons_zero, List.set_cons_succ]
      refine wpAnyH_take (i := 1) (oi := ?tO11) (v := ?tV11) ?tA11 (by kernel_rfl) (by kernel_rfl) (by kernel_rfl) (fun _ _ _ h => h) (Or.inl ⟨?tB11, ?tC11⟩) (by assumption) ?tD11
      case tA11 => (first | (simp only [List.getElem?_toArray, List.getElem?_cons_succ, List.getElem?_cons_zero]; done) | (simp only [List.getElem?_toArray, List.getElem?_cons_succ, List.getElem?_cons_zero]; rfl))
      case tB11 => rfl
      case tC11 => (intro w hSw; (try dsimp only at hSw); go_simp; try with_reducible rfl)
      try simp only [Act.put, List.setIfInBounds_toArray, List.set_cons_zero, List.set_cons_succ]
      refine wpAnyH_take (i := 2) (oi := ?tO12) (v := ?tV12) ?tA12 (by kernel_rfl) (by kernel_rfl) (by kernel_rfl) (fun _ _ _ h => h) (Or.inl ⟨?tB12, ?tC12⟩) (by assumption) ?tD12
      case tA12 => (first | (simp only [List.getElem?_toArray, List.getElem?_cons_succ, List.getElem?_cons_zero]; done) | (simp only [List.getElem?_toArray, List.getElem?_cons_succ, List.getElem?_cons_zero]; rfl))
      case tB12 => rfl
      case tC12 => (intro w hSw; (try dsimp only at hSw); go_simp; try with_reducible rfl)
      try simp only [Act.put, List.setIfInBounds_toArray, List.set_cons_zero, List.set_cons_succ]
      refine wpAnyH_take (i := 3) (oi := ?tO13) (v := ?tV13) ?tA13 (by kernel_rfl) (by kernel_rfl) (by kernel_rfl) (fun _ _ _ h => h) (Or.inl ⟨?tB13, ?tC13⟩) (by assumption) ?tD13
      case tA13 => (first | (simp only [List.getElem?_toArray, List.getElem?_cons_succ, List.getElem?_cons_zero]; done) | (simp only [List.getElem?_toArray, List.getElem?_cons_succ, List.getElem?_cons_zero]; rfl))
      case tB13 => rfl
      case tC13 => (intro w hSw; (try dsimp only at hSw); go_simp; try with_reducible rfl)
      try simp only [Act.put, List.setIfInBounds_toArray, List.set_cons_zero, List.set_cons_succ]
      refine wpAnyH_take (i := 4) (oi := ?tO14) (v := ?tV14) ?tA14 (by kernel_rfl) (by kernel_rfl) (by kernel_rfl) (fun _ _ _ h => h) (Or.inl ⟨?tB14, ?tC14⟩) (by assumption) ?tD14
      case tA14 => (first | (simp only [List.getElem?_toArray, List.getElem?_cons_succ, List.getElem?_cons_zero]; done) | (simp only [List.getElem?_toArray, List.getElem?_cons_succ, List.getElem?_cons_zero]; rfl))
      case tB14 => rfl
      case tC14 => (intro w hSw; (try dsimp only at hSw); go_simp; try with_reducible rfl)
      try simp only [Act.put, List.setIfInBounds_toArray, List.set_cons_zero, List.set_cons_succ]
      refine wpAnyH_take (i := 5) (oi := ?tO15) (v := ?tV15) ?tA15 (by kernel_rfl) (by kernel_rfl) (by kernel_rfl) (fun _ _ _ h => h) (Or.inl ⟨?tB15, ?tC15⟩) (by assumption) ?tD15
      case tA15 => (first | (simp only [List.getElem?_toArray, List.getElem?_cons_succ, List.getElem?_cons_zero]; done) | (simp only [List.getElem?_toArray, List.getElem?_cons_succ, List.getElem?_cons_zero]; rfl))
      case tB15 => rfl
      case tC15 => (intro w hSw; (try dsimp only at hSw); go_simp; try with_reducible rfl)
      try simp only [Act.put, List.setIfInBounds_toArray, List.set_cons_zero, List.set_cons_succ]
      refine wpAnyH_take (i := 6) (oi := ?tO16) (v := ?tV16) ?tA16 (by kernel_rfl) (by kernel_rfl) (by kernel_rfl) (fun _ _ _ h => h) (Or.inl ⟨?tB16, ?tC16⟩) (by assumption) ?tD16
      case tA16 => (first | (simp only [List.getElem?_toArray, List.getElem?_cons_succ, List.getElem?_cons_zero]; done) | (simp only [List.getElem?_toArray, List.getElem?_cons_succ, List.getElem?_cons_zero]; rfl))
      case tB16 => rfl
      case tC16 => (intro w hSw; (try dsimp only at hSw); go_simp; try with_reducible rfl)
      try simp only [Act.put, List.setIfInBounds_toArray, List.set_cons_zero, List.set_cons_succ]
      refine wpAnyH_take (i := 7) (oi := ?tO17) (v := ?tV17) ?tA17 (by kernel_rfl) (by kernel_rfl) (by kernel_rfl) (fun _ _ _ h => h) (Or.inl ⟨?tB17, ?tC17⟩) (by assumption) ?tD17
      case tA17 => (first | (simp only [List.getElem?_toArray, List.getElem?_cons_succ, List.getElem?_cons_zero]; done) | (simp only [List.getElem?_toArray, List.getElem?_cons_succ, List.getElem?_cons_zero]; rfl))
      case tB17 => rfl
      case tC17 => (intro w hSw; (try dsimp only at hSw); go_simp; try with_reducible rfl)
      try simp only [Act.put, List.setIfInBounds_toArray, List.set_cons_zero, List.set_cons_succ]
      refine wpAnyH_take (i := 8) (oi := ?tO18) (v := ?tV18) ?tA18 (by kernel_rfl) (by kernel_rfl) (by kernel_rfl) (fun _ _ _ h => h) (Or.inl ⟨?tB18, ?tC18⟩) (by assumption) ?tD18
      case tA18 => (first | (simp only [List.getElem?_toArray, List.getElem?_cons_succ, List.getElem?_cons_zero]; done) | (simp only [List.getElem?_toArray, List.getElem?_cons_succ, List.getElem?_cons_zero]; rfl))
      case tB18 => rfl
      case tC18 => (intro w hSw; (try dsimp only at hSw); go_simp; try with_reducible rfl)
      try simp only [Act.put, List.setIfInBounds_toArray, List.set_cons_zero, List.set_cons_succ]
      refine wpAnyH_take (i := 9) (oi := ?tO19) (v := ?tV19) ?tA19 (by kernel_rfl) (by kernel_rfl) (by kernel_rfl) (fun _ _ _ h => h) (Or.inl ⟨?tB19, ?tC19⟩) (by assumption) ?tD19
      case tA19 => (first | (simp only [List.getElem?_toArray, List.getElem?_cons_succ, List.getElem?_cons_zero]; done) | (simp only [List.getElem?_toArray, List.getElem?_cons_succ, List.getElem?_cons_zero]; rfl))
      case tB19 => rfl
      case tC19 => (intro w hSw; (try dsimp only at hSw); go_simp; try with_reducible rfl)
      try simp only [Act.put, List.setIfInBounds_toArray, List.set_cons_zero, List.set_cons_succ]
      refine wpAnyH_take (i := 10) (oi := ?tO20) (v := ?tV20) ?tA20 (by kernel_rfl) (by kernel_rfl) (by kernel_rfl) (fun _ _ _ h => h) (Or.inl ⟨?tB20, ?tC20⟩) (by assumption) ?tD20
      case tA20 => (first | (simp only [List.getElem?_toArray, List.getElem?_cons_succ, List.getElem?_cons_zero]; done) | (simp only [List.getElem?_toArray, List.getElem?_cons_succ, List.getElem?_cons_zero]; rfl))
      case tB20 => rfl
      case tC20 => (intro w hSw; (try dsimp only at hSw); go_simp; try with_reducible rfl)
      try simp only [Act.put, List.setIfInBounds_toArray, List.set_cons_zero, List.set_cons_succ]
      refine wpAnyH_take (i := 11) (oi := ?tO21) (v := ?tV21) ?tA21 (by kernel_rfl) (by kernel_rfl) (by kernel_rfl) (fun _ _ _ h => h) (Or.inl ⟨?tB21, ?tC21⟩) (by assumption) ?tD21
      case tA21 => (first | (simp only [List.getElem?_toArray, List.getElem?_cons_succ, List.getElem?_cons_zero]; done) | (simp only [List.getElem?_toArray, List.getElem?_cons_succ, List.getElem?_cons_zero]; rfl))
      case tB21 => rfl
      case tC21 => (intro w hSw; (try dsimp only at hSw); go_simp; try with_reducible rfl)
      try simp only [Act.put, List.setIfInBounds_toArray, List.set_cons_zero, List.set_cons_succ]
      refine wpAnyH_take (i := 12) (oi := ?tO22) (v := ?tV22) ?tA22 (by kernel_rfl) (by kernel_rfl) (by kernel_rfl) (fun _ _ _ h => h) (Or.inl ⟨?tB22, ?tC22⟩) (by assumption) ?tD22
      case tA22 => (first | (simp only [List.getElem?_toArray, List.getElem?_cons_succ, List.getElem?_cons_zero]; done) | (simp only [List.getElem?_toArray, List.getElem?_cons_succ, List.getElem?_cons_zero]; rfl))
      case tB22 => rfl
      case tC22 => (intro w hSw; (try dsimp only at hSw); go_simp; try with_reducible rfl)
      try simp only [Act.put, List.setIfInBounds_toArray, List.set_cons_zero, List.set_cons_succ]
      refine wpAnyH_take (i := 13) (oi := ?tO135) (v := undef) ?tA135 (by kernel_rfl) (by kernel_rfl) (by kernel_rfl) (fun _ _ _ h => h) (Or.inr ⟨?tB135, ?tC135⟩) (by assumption) ?tD135
      case tA135 => (first | (simp only [List.getElem?_toArray, List.getElem?_cons_succ, List.getElem?_cons_zero]; done) | (simp only [List.getElem?_toArray, List.getElem?_cons_succ, List.getElem?_cons_zero]; rfl))
      case tB135 => rfl
      case tC135 => rfl
      try simp only [Act.put, List.setIfInBounds_toArray, List.set_cons_zero, List.set_cons_succ]
      refine wpAnyH_take (i := 14) (oi := ?tO136) (v := undef) ?tA136 (by kernel_rfl) (by kernel_rfl) (by kernel_rfl) (fun _ _ _ h => h) (Or.inr ⟨?tB136, ?tC136⟩) (by assumption) ?tD136
      case tA136 => (first | (simp only [List.getElem?_toArray, List.getElem?_cons_succ, List.getElem?_cons_zero]; done) | (simp only [List.getElem?_toArray, List.getElem?_cons_succ, List.getElem?_cons_zero]; rfl))
      case tB136 => rfl
      case tC136 => rfl
      try simp only [Act.put, List.setIfInBounds_toArray, List.set_cons_zero, List.set_cons_succ]
      refine wpAnyH_take (i := 15) (oi := ?tO137) (v := undef) ?tA137 (by kernel_rfl) (by kernel_rfl) (by kernel_rfl) (fun _ _ _ h => h) (Or.inr ⟨?tB137, ?tC137⟩) (by assumption) ?tD137
      case tA137 => (first | (simp only [List.getElem?_toArray, List.getElem?_cons_succ, List.getElem?_cons_zero]; done) | (simp only [List.getElem?_toArray, List.getElem?_cons_succ, List.getElem?_cons_zero]; rfl))
      case tB137 => rfl
      case tC137 => rfl
      try simp only [Act.put, List.setIfInBounds_toArray, List.set_cons_zero, List.set_cons_succ]
      refine wpAnyH_take (i := 16) (oi := ?tO138) (v := undef) ?tA138 (by kernel_rfl) (by kernel_rfl) (by kernel_rfl) (fun _ _ _ h => h) (Or.inr ⟨?tB138, ?tC138⟩) (by assumption) ?tD138
      case tA138 => (first | (simp only [List.getElem?_toArray, List.getElem?_cons_succ, List.getElem?_cons_zero]; done) | (simp only [List.getElem?_toArray, List.getElem?_cons_succ, List.getElem?_cons_zero]; rfl))
      case tB138 => rfl
      case tC138 => rfl
      try simp only [Act.put, List.setIfInBounds_toArray, List.set_cons_zero, List.set_cons_succ]
      refine wpAnyH_take (i := 17) (oi := ?tO139) (v := undef) ?tA139 (by kernel_rfl) (by kernel_rfl) (by kernel_rfl) (fun _ _ _ h => h) (Or.inr ⟨?tB139, ?tC139⟩) (by assumption) ?tD139
      case tA139 => (first | (simp only [List.getElem?_toArray, List.getElem?_cons_succ, List.getElem?_cons_zero]; done) | (simp only [List.getElem?_toArray, List.getElem?_cons_succ, List.getElem?_cons_zero]; rfl))
      case tB139 => rfl
      case tC139 => rfl
      try simp only [Act.put, List.setIfInBounds_toArray, List.set_cons_zero, List.set_cons_succ]
      refine wpAnyH_take (i := 18) (oi := ?tO140) (v := undef) ?tA140 (by kernel_rfl) (by kernel_rfl) (by kernel_rfl) (fun _ _ _ h => h) (Or.inr ⟨?tB140, ?tC140⟩) (by assumption) ?tD140
      case tA140 => (first | (simp only [List.getElem?_toArray, List.getElem?_cons_succ, List.getElem?_cons_zero]; done) | (simp only [List.getElem?_toArray, List.getElem?_cons_succ, List.getElem?_cons_zero]; rfl))
      case tB140 => rfl
      case tC140 => rfl
      try simp only [Act.put, List.setIfInBounds_toArray, List.set_cons_zero, List.set_cons_succ]
      refine wpAnyH_take (i := 19) (oi := ?tO141) (v := undef) ?tA141 (by kernel_rfl) (by kernel_rfl) (by kernel_rfl) (fun _ _ _ h => h) (Or.inr ⟨?tB141, ?tC141⟩) (by assumption) ?tD141
      case tA141 => (first | (simp only [List.getElem?_toArray, List.getElem?_cons_succ, List.getElem?_cons_zero]; done) | (simp only [List.getElem?_toArray, List.getElem?_cons_succ, List.getElem?_cons_zero]; rfl))
      case tB141 => rfl
      case tC141 => rfl
      try simp only [Act.put, List.setIfInBounds_toArray, List.set_cons_zero, List.set_cons_succ]
      refine wpAnyH_take (i := 20) (oi := ?tO142) (v := undef) ?tA142 (by kernel_rfl) (by kernel_rfl) (by kernel_rfl) (fun _ _ _ h => h) (Or.inr ⟨?tB142, ?tC142⟩) (by assumption) ?tD142
      case tA142 => (first | (simp only [List.getElem?_toArray, List.getElem?_cons_succ, List.getElem?_cons_zero]; done) | (simp only [List.getElem?_toArray, List.getElem?_cons_succ, List.getElem?_cons_zero]; rfl))
      case tB142 => rfl
      case tC142 => rfl
      try simp only [Act.put, List.setIfInBounds_toArray, List.set_cons_zero, List.set_cons_succ]
      refine wpAnyH_take (i := 21) (oi := ?tO143) (v := undef) ?tA143 (by kernel_rfl) (by kernel_rfl) (by kernel_rfl) (fun _ _ _ h => h) (Or.inr ⟨?tB143, ?tC143⟩) (by assumption) ?tD143
      case tA143 => (first | (simp only [List.getElem?_toArray, List.getElem?_cons_succ, List.getElem?_cons_zero]; done) | (simp only [List.getElem?_toArray, List.getElem?_cons_succ, List.getElem?_cons_zero]; rfl))
      case tB143 => rfl
      case tC143 => rfl
      try simp only [Act.put, List.setIfInBounds_toArray, List.set_cons_zero, List.set_cons_succ]
      refine wpAnyH_take (i := 22) (oi := ?tO144) (v := undef) ?tA144 (by kernel_rfl) (by kernel_rfl) (by kernel_rfl) (fun _ _ _ h => h) (Or.inr ⟨?tB144, ?tC144⟩) (by assumption) ?tD144
      case tA144 => (first | (simp only [List.getElem?_toArray, List.getElem?_cons_succ, List.getElem?_cons_zero]; done) | (simp only [List.getElem?_toArray, List.getElem?_cons_succ, List.getElem?_cons_zero]; rfl))
      case tB144 => rfl
      case tC144 => rfl
      try simp only [Act.put, List.setIfInBounds_toArray, List.set_cons_zero, List.set_cons_succ]
      refine wpAnyH_take (i := 23) (oi := ?tO23) (v := ?tV23) ?tA23 (by kernel_rfl) (by kernel_rfl) (by kernel_rfl) (fun _ _ _ h => h) (Or.inl ⟨?tB23, ?tC23⟩) (by assumption) ?tD23
      case tA23 => (first | (simp only [List.getElem?_toArray, List.getElem?_cons_succ, List.getElem?_cons_zero]; done) | (simp only [List.getElem?_toArray, List.getElem?_cons_succ, List.getElem?_cons_zero]; rfl))
      case tB23 => rfl
      case tC23 => (intro w hSw; (try dsimp only at hSw); go_simp; try with_reducible rfl)
      try simp only [Act.put, List.setIfInBounds_toArray, List.set_cons_zero, List.set_cons_succ]
      refine wpAnyH_take (i := 24) (oi := ?tO24) (v := ?tV24) ?tA24 (by kernel_rfl) (by kernel_rfl) (by kernel_rfl) (fun _ _ _ h => h) (Or.inl ⟨?tB24, ?tC24⟩) (by assumption) ?tD24
      case tA24 => (first | (simp only [List.getElem?_toArray, List.getElem?_cons_succ, List.getElem?_cons_zero]; done) | (simp only [List.getElem?_toArray, List.getElem?_cons_succ, List.getElem?_cons_zero]; rfl))
      case tB24 => rfl
      case tC24 => (intro w hSw; (try dsimp only at hSw); go_simp; try with_reducible rfl)
      try simp only [Act.put, List.setIfInBounds_toArray, List.set_cons_zero, List.set_cons_succ]
      refine wpAnyH_take (i := 25) (oi := ?tO145) (v := undef) ?tA145 (by kernel_rfl) (by kernel_rfl) (by kernel_rfl) (fun _ _ _ h => h) (Or.inr ⟨?tB145, ?tC145⟩) (by assumption) ?tD145
      case tA145 => (first | (simp only [List.getElem?_toArray, List.getElem?_cons_succ, List.getElem?_cons_zero]; done) | (simp only [List.getElem?_toArray, List.getElem?_cons_succ, List.getElem?_cons_zero]; rfl))
      case tB145 => rfl
      case tC145 => rfl
      try simp only [Act.put, List.setIfInBounds_toArray, List.set_cons_zero, List.set_cons_succ]
      refine wpAnyH_take (i := 26) (oi := ?tO146) (v := undef) ?tA146 (by kernel_rfl) (by kernel_rfl) (by kernel_rfl) (fun _ _ _ h => h) (Or.inr ⟨?tB146, ?tC146⟩) (by assumption) ?tD146
      case tA146 => (first | (simp only [List.getElem?_toArray, List.getElem?_cons_succ, List.getElem?_cons_zero]; done) | (simp only [List.getElem?_toArray, List.getElem?_cons_succ, List.getElem?_cons_zero]; rfl))
      case tB146 => rfl
      case tC146 => rfl
      try simp only [Act.put, List.setIfInBounds_toArray, List.set_cons_zero, List.set_cons_succ]
      refine wpAnyH_take (i := 27) (oi := ?tO147) (v := undef) ?tA147 (by kernel_rfl) (by kernel_rfl) (by kernel_rfl) (fun _ _ _ h => h) (Or.inr ⟨?tB147, ?tC147⟩) (by assumption) ?tD147
      case tA147 => (first | (simp only [List.getElem?_toArray, List.getElem?_cons_succ, List.getElem?_cons_zero]; done) | (simp only [List.getElem?_toArray, List.getElem?_cons_succ, List.getElem?_cons_zero]; rfl))
      case tB147 => rfl
      case tC147 => rfl
      try simp only [Act.put, List.setIfInBounds_toArray, List.set_cons_zero, List.set_cons_succ]
      refine wpAnyH_take (i := 28) (oi := ?tO148) (v := undef) ?tA148 (by kernel_rfl) (by kernel_rfl) (by kernel_rfl) (fun _ _ _ h => h) (Or.inr ⟨?tB148, ?tC148⟩) (by assumption) ?tD148
      case tA148 => (first | (simp only [List.getElem?_toArray, List.getElem?_cons_succ, List.getElem?_cons_zero]; done) | (simp only [List.getElem?_toArray, List.getElem?_cons_succ, List.getElem?_cons_zero]; rfl))
      case tB148 => rfl
      case tC148 => rfl
      try simp only [Act.put, List.setIfInBounds_toArray, List.set_cons_zero, List.set_cons_succ]
      refine wpAnyH_take (i := 29) (oi := ?tO149) (v := undef) ?tA149 (by kernel_rfl) (by kernel_rfl) (by kernel_rfl) (fun _ _ _ h => h) (Or.inr ⟨?tB149, ?tC149⟩) (by assumption) ?tD149
      case tA149 => (first | (simp only [List.getElem?_toArray, List.getElem?_cons_succ, List.getElem?_cons_zero]; done) | (simp only [List.getElem?_toArray, List.getElem?_cons_succ, List.getElem?_cons_zero]; rfl))
      case tB149 => rfl
      case tC149 => rfl
      try simp only [Act.put, List.setIfInBounds_toArray, List.set_cons_zero, List.set_cons_succ]
      refine wpAnyH_take (i := 30) (oi := ?tO150) (v := undef) ?tA150 (by kernel_rfl) (by kernel_rfl) (by kernel_rfl) (fun _ _ _ h => h) (Or.inr ⟨?tB150, ?tC150⟩) (by assumption) ?tD150
      case tA150 => (first | (simp only [List.getElem?_toArray, List.getElem?_cons_succ, List.getElem?_cons_zero]; done) | (simp only [List.getElem?_toArray, List.getElem?_cons_succ, List.getElem?_cons_zero]; rfl))
      case tB150 => rfl
      case tC150 => rfl
      try simp only [Act.put, List.setIfInBounds_toArray, List.set_cons_zero, List.set_cons_succ]
      refine wpAnyH_take (i := 31) (oi := ?tO151) (v := undef) ?tA151 (by kernel_rfl) (by kernel_rfl) (by kernel_rfl) (fun _ _ _ h => h) (Or.inr ⟨?tB151, ?tC151⟩) (by assumption) ?tD151
      case tA151 => (first | (simp only [List.getElem?_toArray, List.getElem?_cons_succ, List.getElem?_cons_zero]; done) | (simp only [List.getElem?_toArray, List.getElem?_cons_succ, List.getElem?_cons_zero]; rfl))
      case tB151 => rfl
      case tC151 => rfl
      try simp only [Act.put, List.setIfInBounds_toArray, List.set_cons_zero, List.set_cons_succ]
      refine wpAnyH_take (i := 32) (oi := ?tO152) (v := undef) ?tA152 (by kernel_rfl) (by kernel_rfl) (by kernel_rfl) (fun _ _ _ h => h) (Or.inr ⟨?tB152, ?tC152⟩) (by assumption) ?tD152
      case tA152 => (first | (simp only [List.getElem?_toArray, List.getElem?_cons_succ, List.getElem?_cons_zero]; done) | (simp only [List.getElem?_toArray, List.getElem?_cons_succ, List.getElem?_cons_zero]; rfl))
      case tB152 => rfl
      case tC152 => rfl
      try simp only [Act.put, List.setIfInBounds_toArray, List.set_cons_zero, List.set_cons_succ]
      refine wpAnyH_take (i := 33) (oi := ?tO153) (v := undef) ?tA153 (by kernel_rfl) (by kernel_rfl) (by kernel_rfl) (fun _ _ _ h => h) (Or.inr ⟨?tB153, ?tC153⟩) (by assumption) ?tD153
      case tA153 => (first | (simp only [List.getElem?_toArray, List.getElem?_cons_succ, List.getElem?_cons_zero]; done) | (simp only [List.getElem?_toArray, List.getElem?_cons_succ, List.getElem?_cons_zero]; rfl))
      case tB153 => rfl
      case tC153 => rfl
      try simp only [Act.put, List.setIfInBounds_toArray, List.set_cons_zero, List.set_cons_succ]
      refine wpAnyH_take (i := 34) (oi := ?tO154) (v := undef) ?tA154 (by kernel_rfl) (by kernel_rfl) (by kernel_rfl) (fun _ _ _ h => h) (Or.inr ⟨?tB154, ?tC154⟩) (by assumption) ?tD154
      case tA154 => (first | (simp only [List.getElem?_toArray, List.getElem?_cons_succ, List.getElem?_cons_zero]; done) | (simp only [List.getElem?_toArray, List.getElem?_cons_succ, List.getElem?_cons_zero]; rfl))
      case tB154 => rfl
      case tC154 => rfl
      try simp only [Act.put, List.setIfInBounds_toArray, List.set_cons_zero, List.set_cons_succ]
      refine wpAnyH_take (i := 35) (oi := ?tO155) (v := undef) ?tA155 (by kernel_rfl) (by kernel_rfl) (by kernel_rfl) (fun _ _ _ h => h) (Or.inr ⟨?tB155, ?tC155⟩) (by assumption) ?tD155
      case tA155 => (first | (simp only [List.getElem?_toArray, List.getElem?_cons_succ, List.getElem?_cons_zero]; done) | (simp only [List.getElem?_toArray, List.getElem?_cons_succ, List.getElem?_cons_zero]; rfl))
      case tB155 => rfl
      case tC155 => rfl
      try simp only [Act.put, List.setIfInBounds_toArray, List.set_cons_zero, List.set_cons_succ]
      refine wpAnyH_take (i := 36) (oi := ?tO156) (v := undef) ?tA156 (by kernel_rfl) (by kernel_rfl) (by kernel_rfl) (fun _ _ _ h => h) (Or.inr ⟨?tB156, ?tC156⟩) (by assumption) ?tD156
      case tA156 => (first | (simp only [List.getElem?_toArray, List.getElem?_cons_succ, List.getElem?_cons_zero]; done) | (simp only [List.getElem?_toArray, List.getElem?_cons_succ, List.getElem?_cons_zero]; rfl))
      case tB156 => rfl
      case tC156 => rfl
      try simp only [Act.put, List.setIfInBounds_toArray, List.set_cons_zero, List.set_cons_succ]
      refine wpAnyH_take (i := 37) (oi := ?tO157) (v := undef) ?tA157 (by kernel_rfl) (by kernel_rfl) (by kernel_rfl) (fun _ _ _ h => h) (Or.inr ⟨?tB157, ?tC157⟩) (by assumption) ?tD157
      case tA157 => (first | (simp only [List.getElem?_toArray, List.getElem?_cons_succ, List.getElem?_cons_zero]; done) | (simp only [List.getElem?_toArray, List.getElem?_cons_succ, List.getElem?_cons_zero]; rfl))
      case tB157 => rfl
      case tC157 => rfl
      try simp only [Act.put, List.setIfInBounds_toArray, List.set_cons_zero, List.set_cons_succ]
      refine wpAnyH_take (i := 38) (oi := ?tO25) (v := ?tV25) ?tA25 (by kernel_rfl) (by kernel_rfl) (by kernel_rfl) (fun _ _ _ h => h) (Or.inl ⟨?tB25, ?tC25⟩) (by assumption) ?tD25
      case tA25 => (first | (simp only [List.getElem?_toArray, List.getElem?_cons_succ, List.getElem?_cons_zero]; done) | (simp only [List.getElem?_toArray, List.getElem?_cons_succ, List.getElem?_cons_zero]; rfl))
      case tB25 => rfl
      case tC25 => (intro w hSw; (try dsimp only at hSw); go_simp; try with_reducible rfl)
      try simp only [Act.put, List.setIfInBounds_toArray, List.set_cons_zero, List.set_cons_succ]
      refine wpAnyH_take (i := 39) (oi := ?tO26) (v := ?tV26) ?tA26 (by kernel_rfl) (by kernel_rfl) (by kernel_rfl) (fun _ _ _ h => h) (Or.inl ⟨?tB26, ?tC26⟩) (by assumption) ?tD26
      case tA26 => (first | (simp only [List.getElem?_toArray, List.getElem?_cons_succ, List.getElem?_cons_zero]; done) | (simp only [List.getElem?_toArray, List.getElem?_cons_succ, List.getElem?_cons_zero]; rfl))
      case tB26 => rfl
      case tC26 => (intro w hSw; (try dsimp only at hSw); go_simp; try with_reducible rfl)
      try simp only [Act.put, List.setIfInBounds_toArray, List.set_cons_zero, List.set_cons_succ]
      refine wpAnyH_done (by kernel_rfl) ?_ _
      refine NoPanic.normal ?_
      go_wp2_with fail
      go_ret
      exact ⟨rfl, by first | exact hbA | exact hbA.drew | exact below_drewN hbA _⟩
  -- END
  obtain ⟨j, rfl⟩ : ∃ j : Nat, J = (j : Int) := ⟨J.toNat, by omega⟩
  have hjn : j < ne := by omega
  rw [if_pos (by omega), Int.toNat_natCast] at hR
  have hd : (0 : Int) ≤ (j : Int) := by omega
  have hd2 : (j : Int) < (ne : Int) := by omega
  have HX3 := Lib.hid hx3
  have HKD := Lib.hid hkd
  have HAT := Lib.hid hat
  have HRC := Lib.hid (hrow.cell hjn)
  have x3 := hFA.cell hx3
  have x4 := hFA.cell hkd
  have x5 := hFA.cell hat
  have x6 := hFA.cell (hrow.cell hjn)
  have HAp := Lib.hid (fun (X : World) (h : Sat F X) => apart_w h es An nn cn Ae ne ce hT.evs i j hi' hjn)
  have HHs := Lib.hid (fun (X : World) => ihas_w lo hi hs (gapE es i j) (by
    have h1 := (hT.evs.at_ hi').1
    have h2 := (hT.evs.at_ hjn).1
    unfold gapE; omega) X)
  obtain ⟨D, hD⟩ : ∃ D, hasD lo hi (gapE es i j) = D := ⟨_, rfl⟩
  rw [hD] at HHs hR
  clear hT hx3 hkd hat hrow hs hneg hbig hD
  cases D with
  | true =>
    have HR : Hid (r j = R) := Lib.hid hR
    clear hR
    go_enter Try.func90, Try.ntmps90
    go_wp2_with fail
    rw [← HWA.out]
    -- NEAR YES
    refine wp_region_noPanic ?_
    refine wp_region_held_drew (S := (fun w' => w'.cell? ⟨w.heap.size, 2, none⟩ = some (.int .i64 lo) ∧ w'.cell? ⟨w.heap.size, 3, none⟩ = some (.int .i64 hi) ∧ w'.cell? ⟨w.heap.size, 4, none⟩ = some (.slice (some ak) nk ck) ∧ w'.cell? ⟨gx, 0, none⟩ = some (.slice An nn cn) ∧ w'.cell? ⟨gx, 1, none⟩ = some (.slice Ae ne ce) ∧ w'.cell? ⟨gx, 3, none⟩ = some (.slice (some ⟨ga, 0, none⟩) N N) ∧ w'.cell? ak = some (.int .i64 (q : Nat)) ∧ w'.cell? ⟨ga, q, none⟩ = some (.slice (some ⟨g, 0, none⟩) ne ne) ∧ w'.cell? ⟨g, j, none⟩ = some (.bool (r j)))) (by kernel_rfl) ?hS0 (fun hHeld => ?hR0)
    case hS0 => (try dsimp only); go_keep
    case hR0 =>
      refine wpAnyH_take (i := 0) (oi := ?tO27) (v := ?tV27) ?tA27 (by kernel_rfl) (by kernel_rfl) (by kernel_rfl) (fun _ _ _ h => h) (Or.inl ⟨?tB27, ?tC27⟩) (by assumption) ?tD27
      case tA27 => (first | (simp only [List.getElem?_toArray, List.getElem?_cons_succ, List.getElem?_cons_zero]; done) | (simp only [List.getElem?_toArray, List.getElem?_cons_succ, List.getElem?_cons_zero]; rfl))
      case tB27 => rfl
      case tC27 => (intro w hSw; (try dsimp only at hSw); go_simp; try with_reducible rfl)
      try simp only [Act.put, List.setIfInBounds_toArray, List.set_cons_zero, List.set_cons_succ]
      refine wpAnyH_take (i := 1) (oi := ?tO28) (v := ?tV28) ?tA28 (by kernel_rfl) (by kernel_rfl) (by kernel_rfl) (fun _ _ _ h => h) (Or.inl ⟨?tB28, ?tC28⟩) (by assumption) ?tD28
      case tA28 => (first | (simp only [List.getElem?_toArray, List.getElem?_cons_succ, List.getElem?_cons_zero]; done) | (simp only [List.getElem?_toArray, List.getElem?_cons_succ, List.getElem?_cons_zero]; rfl))
      case tB28 => rfl
      case tC28 => (intro w hSw; (try dsimp only at hSw); go_simp; try with_reducible rfl)
      try simp only [Act.put, List.setIfInBounds_toArray, List.set_cons_zero, List.set_cons_succ]
      refine wpAnyH_take (i := 2) (oi := ?tO29) (v := ?tV29) ?tA29 (by kernel_rfl) (by kernel_rfl) (by kernel_rfl) (fun _ _ _ h => h) (Or.inl ⟨?tB29, ?tC29⟩) (by assumption) ?tD29
      case tA29 => (first | (simp only [List.getElem?_toArray, List.getElem?_cons_succ, List.getElem?_cons_zero]; done) | (simp only [List.getElem?_toArray, List.getElem?_cons_succ, List.getElem?_cons_zero]; rfl))
      case tB29 => rfl
      case tC29 => (intro w hSw; (try dsimp only at hSw); go_simp; try with_reducible rfl)
      try simp only [Act.put, List.setIfInBounds_toArray, List.set_cons_zero, List.set_cons_succ]
      refine wpAnyH_take (i := 3) (oi := ?tO30) (v := ?tV30) ?tA30 (by kernel_rfl) (by kernel_rfl) (by kernel_rfl) (fun _ _ _ h => h) (Or.inl ⟨?tB30, ?tC30⟩) (by assumption) ?tD30
      case tA30 => (first | (simp only [List.getElem?_toArray, List.getElem?_cons_succ, List.getElem?_cons_zero]; done) | (simp only [List.getElem?_toArray, List.getElem?_cons_succ, List.getElem?_cons_zero]; rfl))
      case tB30 => rfl
      case tC30 => (intro w hSw; (try dsimp only at hSw); go_simp; try with_reducible rfl)
      try simp only [Act.put, List.setIfInBounds_toArray, List.set_cons_zero, List.set_cons_succ]
      refine wpAnyH_take (i := 4) (oi := ?tO31) (v := ?tV31) ?tA31 (by kernel_rfl) (by kernel_rfl) (by kernel_rfl) (fun _ _ _ h => h) (Or.inl ⟨?tB31, ?tC31⟩) (by assumption) ?tD31
      case tA31 => (first | (simp only [List.getElem?_toArray, List.getElem?_cons_succ, List.getElem?_cons_zero]; done) | (simp only [List.getElem?_toArray, List.getElem?_cons_succ, List.getElem?_cons_zero]; rfl))
      case tB31 => rfl
      case tC31 => (intro w hSw; (try dsimp only at hSw); go_simp; try with_reducible rfl)
      try simp only [Act.put, List.setIfInBounds_toArray, List.set_cons_zero, List.set_cons_succ]
      refine wpAnyH_take (i := 5) (oi := ?tO32) (v := ?tV32) ?tA32 (by kernel_rfl) (by kernel_rfl) (by kernel_rfl) (fun _ _ _ h => h) (Or.inl ⟨?tB32, ?tC32⟩) (by assumption) ?tD32
      case tA32 => (first | (simp only [List.getElem?_toArray, List.getElem?_cons_succ, List.getElem?_cons_zero]; done) | (simp only [List.getElem?_toArray, List.getElem?_cons_succ, List.getElem?_cons_zero]; rfl))
      case tB32 => rfl
      case tC32 => (intro w hSw; (try dsimp only at hSw); go_simp; try with_reducible rfl)
      try simp only [Act.put, List.setIfInBounds_toArray, List.set_cons_zero, List.set_cons_succ]
      refine wpAnyH_take (i := 6) (oi := ?tO33) (v := ?tV33) ?tA33 (by kernel_rfl) (by kernel_rfl) (by kernel_rfl) (fun _ _ _ h => h) (Or.inl ⟨?tB33, ?tC33⟩) (by assumption) ?tD33
      case tA33 => (first | (simp only [List.getElem?_toArray, List.getElem?_cons_succ, List.getElem?_cons_zero]; done) | (simp only [List.getElem?_toArray, List.getElem?_cons_succ, List.getElem?_cons_zero]; rfl))
      case tB33 => rfl
      case tC33 => (intro w hSw; (try dsimp only at hSw); go_simp; try with_reducible rfl)
      try simp only [Act.put, List.setIfInBounds_toArray, List.set_cons_zero, List.set_cons_succ]
      refine wpAnyH_take (i := 7) (oi := ?tO34) (v := ?tV34) ?tA34 (by kernel_rfl) (by kernel_rfl) (by kernel_rfl) (fun _ _ _ h => h) (Or.inl ⟨?tB34, ?tC34⟩) (by assumption) ?tD34
      case tA34 => (first | (simp only [List.getElem?_toArray, List.getElem?_cons_succ, List.getElem?_cons_zero]; done) | (simp only [List.getElem?_toArray, List.getElem?_cons_succ, List.getElem?_cons_zero]; rfl))
      case tB34 => rfl
      case tC34 => (intro w hSw; (try dsimp only at hSw); go_simp; try with_reducible rfl)
      try simp only [Act.put, List.setIfInBounds_toArray, List.set_cons_zero, List.set_cons_succ]
      refine wpAnyH_take (i := 8) (oi := ?tO35) (v := ?tV35) ?tA35 (by kernel_rfl) (by kernel_rfl) (by kernel_rfl) (fun _ _ _ h => h) (Or.inl ⟨?tB35, ?tC35⟩) (by assumption) ?tD35
      case tA35 => (first | (simp only [List.getElem?_toArray, List.getElem?_cons_succ, List.getElem?_cons_zero]; done) | (simp only [List.getElem?_toArray, List.getElem?_cons_succ, List.getElem?_cons_zero]; rfl))
      case tB35 => rfl
      case tC35 => (intro w hSw; (try dsimp only at hSw); go_simp; try with_reducible rfl)
      try simp only [Act.put, List.setIfInBounds_toArray, List.set_cons_zero, List.set_cons_succ]
      refine wpAnyH_take (i := 9) (oi := ?tO36) (v := ?tV36) ?tA36 (by kernel_rfl) (by kernel_rfl) (by kernel_rfl) (fun _ _ _ h => h) (Or.inl ⟨?tB36, ?tC36⟩) (by assumption) ?tD36
      case tA36 => (first | (simp only [List.getElem?_toArray, List.getElem?_cons_succ, List.getElem?_cons_zero]; done) | (simp only [List.getElem?_toArray, List.getElem?_cons_succ, List.getElem?_cons_zero]; rfl))
      case tB36 => rfl
      case tC36 => (intro w hSw; (try dsimp only at hSw); go_simp; try with_reducible rfl)
      try simp only [Act.put, List.setIfInBounds_toArray, List.set_cons_zero, List.set_cons_succ]
      refine wpAnyH_take (i := 10) (oi := ?tO37) (v := ?tV37) ?tA37 (by kernel_rfl) (by kernel_rfl) (by kernel_rfl) (fun _ _ _ h => h) (Or.inl ⟨?tB37, ?tC37⟩) (by assumption) ?tD37
      case tA37 => (first | (simp only [List.getElem?_toArray, List.getElem?_cons_succ, List.getElem?_cons_zero]; done) | (simp only [List.getElem?_toArray, List.getElem?_cons_succ, List.getElem?_cons_zero]; rfl))
      case tB37 => rfl
      case tC37 => (intro w hSw; (try dsimp only at hSw); go_simp; try with_reducible rfl)
      try simp only [Act.put, List.setIfInBounds_toArray, List.set_cons_zero, List.set_cons_succ]
      refine wpAnyH_take (i := 11) (oi := ?tO38) (v := ?tV38) ?tA38 (by kernel_rfl) (by kernel_rfl) (by kernel_rfl) (fun _ _ _ h => h) (Or.inl ⟨?tB38, ?tC38⟩) (by assumption) ?tD38
      case tA38 => (first | (simp only [List.getElem?_toArray, List.getElem?_cons_succ, List.getElem?_cons_zero]; done) | (simp only [List.getElem?_toArray, List.getElem?_cons_succ, List.getElem?_cons_zero]; rfl))
      case tB38 => rfl
      case tC38 => (intro w hSw; (try dsimp only at hSw); go_simp; try with_reducible rfl)
      try simp only [Act.put, List.setIfInBounds_toArray, List.set_cons_zero, List.set_cons_succ]
      refine wpAnyH_take (i := 12) (oi := ?tO39) (v := ?tV39) ?tA39 (by kernel_rfl) (by kernel_rfl) (by kernel_rfl) (fun _ _ _ h => h) (Or.inl ⟨?tB39, ?tC39⟩) (by assumption) ?tD39
      case tA39 => (first | (simp only [List.getElem?_toArray, List.getElem?_cons_succ, List.getElem?_cons_zero]; done) | (simp only [List.getElem?_toArray, List.getElem?_cons_succ, List.getElem?_cons_zero]; rfl))
      case tB39 => rfl
      case tC39 => (intro w hSw; (try dsimp only at hSw); go_simp; try with_reducible rfl)
      try simp only [Act.put, List.setIfInBounds_toArray, List.set_cons_zero, List.set_cons_succ]
      refine wpAnyH_take (i := 13) (oi := ?tO40) (v := ?tV40) ?tA40 (by kernel_rfl) (by kernel_rfl) (by kernel_rfl) (fun _ _ _ h => h) (Or.inl ⟨?tB40, ?tC40⟩) (by assumption) ?tD40
      case tA40 => (first | (simp only [List.getElem?_toArray, List.getElem?_cons_succ, List.getElem?_cons_zero]; done) | (simp only [List.getElem?_toArray, List.getElem?_cons_succ, List.getElem?_cons_zero]; rfl))
      case tB40 => rfl
      case tC40 => (intro w hSw; (try dsimp only at hSw); go_simp; try with_reducible rfl)
      try simp only [Act.put, List.setIfInBounds_toArray, List.set_cons_zero, List.set_cons_succ]
      refine wpAnyH_take (i := 14) (oi := ?tO41) (v := ?tV41) ?tA41 (by kernel_rfl) (by kernel_rfl) (by kernel_rfl) (fun _ _ _ h => h) (Or.inl ⟨?tB41, ?tC41⟩) (by assumption) ?tD41
      case tA41 => (first | (simp only [List.getElem?_toArray, List.getElem?_cons_succ, List.getElem?_cons_zero]; done) | (simp only [List.getElem?_toArray, List.getElem?_cons_succ, List.getElem?_cons_zero]; rfl))
      case tB41 => rfl
      case tC41 => (intro w hSw; (try dsimp only at hSw); go_simp; try with_reducible rfl)
      try simp only [Act.put, List.setIfInBounds_toArray, List.set_cons_zero, List.set_cons_succ]
      refine wpAnyH_take (i := 15) (oi := ?tO42) (v := ?tV42) ?tA42 (by kernel_rfl) (by kernel_rfl) (by kernel_rfl) (fun _ _ _ h => h) (Or.inl ⟨?tB42, ?tC42⟩) (by assumption) ?tD42
      case tA42 => (first | (simp only [List.getElem?_toArray, List.getElem?_cons_succ, List.getElem?_cons_zero]; done) | (simp only [List.getElem?_toArray, List.getElem?_cons_succ, List.getElem?_cons_zero]; rfl))
      case tB42 => rfl
      case tC42 => (intro w hSw; (try dsimp only at hSw); go_simp; try with_reducible rfl)
      try simp only [Act.put, List.setIfInBounds_toArray, List.set_cons_zero, List.set_cons_succ]
      refine wpAnyH_take (i := 16) (oi := ?tO43) (v := ?tV43) ?tA43 (by kernel_rfl) (by kernel_rfl) (by kernel_rfl) (fun _ _ _ h => h) (Or.inl ⟨?tB43, ?tC43⟩) (by assumption) ?tD43
      case tA43 => (first | (simp only [List.getElem?_toArray, List.getElem?_cons_succ, List.getElem?_cons_zero]; done) | (simp only [List.getElem?_toArray, List.getElem?_cons_succ, List.getElem?_cons_zero]; rfl))
      case tB43 => rfl
      case tC43 => (intro w hSw; (try dsimp only at hSw); go_simp; try with_reducible rfl)
      try simp only [Act.put, List.setIfInBounds_toArray, List.set_cons_zero, List.set_cons_succ]
      refine wpAnyH_take (i := 17) (oi := ?tO44) (v := ?tV44) ?tA44 (by kernel_rfl) (by kernel_rfl) (by kernel_rfl) (fun _ _ _ h => h) (Or.inl ⟨?tB44, ?tC44⟩) (by assumption) ?tD44
      case tA44 => (first | (simp only [List.getElem?_toArray, List.getElem?_cons_succ, List.getElem?_cons_zero]; done) | (simp only [List.getElem?_toArray, List.getElem?_cons_succ, List.getElem?_cons_zero]; rfl))
      case tB44 => rfl
      case tC44 => (intro w hSw; (try dsimp only at hSw); go_simp; try with_reducible rfl)
      try simp only [Act.put, List.setIfInBounds_toArray, List.set_cons_zero, List.set_cons_succ]
      refine wpAnyH_take (i := 18) (oi := ?tO45) (v := ?tV45) ?tA45 (by kernel_rfl) (by kernel_rfl) (by kernel_rfl) (fun _ _ _ h => h) (Or.inl ⟨?tB45, ?tC45⟩) (by assumption) ?tD45
      case tA45 => (first | (simp only [List.getElem?_toArray, List.getElem?_cons_succ, List.getElem?_cons_zero]; done) | (simp only [List.getElem?_toArray, List.getElem?_cons_succ, List.getElem?_cons_zero]; rfl))
      case tB45 => rfl
      case tC45 => (intro w hSw; (try dsimp only at hSw); go_simp; try with_reducible rfl)
      try simp only [Act.put, List.setIfInBounds_toArray, List.set_cons_zero, List.set_cons_succ]
      refine wpAnyH_take (i := 19) (oi := ?tO46) (v := ?tV46) ?tA46 (by kernel_rfl) (by kernel_rfl) (by kernel_rfl) (fun _ _ _ h => h) (Or.inl ⟨?tB46, ?tC46⟩) (by assumption) ?tD46
      case tA46 => (first | (simp only [List.getElem?_toArray, List.getElem?_cons_succ, List.getElem?_cons_zero]; done) | (simp only [List.getElem?_toArray, List.getElem?_cons_succ, List.getElem?_cons_zero]; rfl))
      case tB46 => rfl
      case tC46 => (intro w hSw; (try dsimp only at hSw); go_simp; try with_reducible rfl)
      try simp only [Act.put, List.setIfInBounds_toArray, List.set_cons_zero, List.set_cons_succ]
      refine wpAnyH_take (i := 20) (oi := ?tO47) (v := ?tV47) ?tA47 (by kernel_rfl) (by kernel_rfl) (by kernel_rfl) (fun _ _ _ h => h) (Or.inl ⟨?tB47, ?tC47⟩) (by assumption) ?tD47
      case tA47 => (first | (simp only [List.getElem?_toArray, List.getElem?_cons_succ, List.getElem?_cons_zero]; done) | (simp only [List.getElem?_toArray, List.getElem?_cons_succ, List.getElem?_cons_zero]; rfl))
      case tB47 => rfl
      case tC47 => (intro w hSw; (try dsimp only at hSw); go_simp; try with_reducible rfl)
      try simp only [Act.put, List.setIfInBounds_toArray, List.set_cons_zero, List.set_cons_succ]
      refine wpAnyH_ready (rs := [21]) (by kernel_rfl) (by simp) ?_
      refine AllReadyH.cons (o := ?sO1) ?sA1 (fun K hK => ?sB1) ?sC1
      case sA1 => simp only [List.getElem?_toArray, List.getElem?_cons_succ, List.getElem?_cons_zero]; rfl
      case sC1 => exact AllReadyH.nil
      case sB1 =>
        go_simp
        go_at_call 119; refine (HAp.out _ (by first | exact hFA | exact hFA.drew)).mono ?_; rintro e w2 ⟨rfl, hw2⟩; have hc2 : Below wA.heap.size wA w2 := (by refine bel_trans ?_ hw2; first | exact bel_eqv (Below.refl _ wA) rfl rfl rfl rfl); have hFr := hFA.below hc2; obtain ⟨_, _, r2, r3, r4⟩ := blk5 (HBN.out.call hc2); have r5 := hFr.cell HT.out.t0; have r6 := hFr.cell HT.out.t1; have r7 := hFr.cell HX3.out; have r8 := hFr.cell HKD.out; have r9 := hFr.cell HAT.out; have r10 := hFr.cell HRC.out
        try go_wp2_with fail
        refine hK.out _ _ ?kS1 (fun hHeld => ?kR1)
        case kS1 => (try dsimp only); go_keep
        case kR1 =>
          clear hK K
          try simp only [Act.put, List.setIfInBounds_toArray, List.set_cons_zero, List.set_cons_succ]
          refine wpAnyH_ready (rs := [22]) (by kernel_rfl) (by simp) ?_
          refine AllReadyH.cons (o := ?sO2) ?sA2 (fun K hK => ?sB2) ?sC2
          case sA2 => simp only [List.getElem?_toArray, List.getElem?_cons_succ, List.getElem?_cons_zero]; rfl
          case sC2 => exact AllReadyH.nil
          case sB2 =>
            go_simp
            go_at_call 118; refine (HHs.out _).mono ?_; rintro e w3 ⟨rfl, hw3⟩; have hc3 : Below wA.heap.size wA w3 := (by refine bel_trans ?_ hw3; first | exact bel_eqv hc2 rfl rfl rfl rfl); have hFs := hFA.below hc3; obtain ⟨_, _, s2, s3, s4⟩ := blk5 (HBN.out.call hc3); have s5 := hFs.cell HT.out.t0; have s6 := hFs.cell HT.out.t1; have s7 := hFs.cell HX3.out; have s8 := hFs.cell HKD.out; have s9 := hFs.cell HAT.out; have s10 := hFs.cell HRC.out
            try go_wp2_with fail
            refine hK.out _ _ ?kS2 (fun hHeld => ?kR2)
            case kS2 => (try dsimp only); go_keep
            case kR2 =>
              clear hK K
              try simp only [Act.put, List.setIfInBounds_toArray, List.set_cons_zero, List.set_cons_succ]
              refine wpAnyH_take (i := 23) (oi := ?tO48) (v := ?tV48) ?tA48 (by kernel_rfl) (by kernel_rfl) (by kernel_rfl) (fun _ _ _ h => h) (Or.inl ⟨?tB48, ?tC48⟩) (by assumption) ?tD48
              case tA48 => (first | (simp only [List.getElem?_toArray, List.getElem?_cons_succ, List.getElem?_cons_zero]; done) | (simp only [List.getElem?_toArray, List.getElem?_cons_succ, List.getElem?_cons_zero]; rfl))
              case tB48 => rfl
              case tC48 => (intro w hSw; (try dsimp only at hSw); go_simp; try with_reducible rfl)
              try simp only [Act.put, List.setIfInBounds_toArray, List.set_cons_zero, List.set_cons_succ]
              refine wpAnyH_take (i := 24) (oi := ?tO49) (v := ?tV49) ?tA49 (by kernel_rfl) (by kernel_rfl) (by kernel_rfl) (fun _ _ _ h => h) (Or.inl ⟨?tB49, ?tC49⟩) (by assumption) ?tD49
              case tA49 => (first | (simp only [List.getElem?_toArray, List.getElem?_cons_succ, List.getElem?_cons_zero]; done) | (simp only [List.getElem?_toArray, List.getElem?_cons_succ, List.getElem?_cons_zero]; rfl))
              case tB49 => rfl
              case tC49 => (intro w hSw; (try dsimp only at hSw); go_simp; try with_reducible rfl)
              try simp only [Act.put, List.setIfInBounds_toArray, List.set_cons_zero, List.set_cons_succ]
              refine wpAnyH_take (i := 25) (oi := ?tO50) (v := ?tV50) ?tA50 (by kernel_rfl) (by kernel_rfl) (by kernel_rfl) (fun _ _ _ h => h) (Or.inl ⟨?tB50, ?tC50⟩) (by assumption) ?tD50
              case tA50 => (first | (simp only [List.getElem?_toArray, List.getElem?_cons_succ, List.getElem?_cons_zero]; done) | (simp only [List.getElem?_toArray, List.getElem?_cons_succ, List.getElem?_cons_zero]; rfl))
              case tB50 => rfl
              case tC50 => (intro w hSw; (try dsimp only at hSw); go_simp; try with_reducible rfl)
              try simp only [Act.put, List.setIfInBounds_toArray, List.set_cons_zero, List.set_cons_succ]
              refine wpAnyH_take (i := 26) (oi := ?tO51) (v := ?tV51) ?tA51 (by kernel_rfl) (by kernel_rfl) (by kernel_rfl) (fun _ _ _ h => h) (Or.inl ⟨?tB51, ?tC51⟩) (by assumption) ?tD51
              case tA51 => (first | (simp only [List.getElem?_toArray, List.getElem?_cons_succ, List.getElem?_cons_zero]; done) | (simp only [List.getElem?_toArray, List.getElem?_cons_succ, List.getElem?_cons_zero]; rfl))
              case tB51 => rfl
              case tC51 => (intro w hSw; (try dsimp only at hSw); go_simp; try with_reducible rfl)
              try simp only [Act.put, List.setIfInBounds_toArray, List.set_cons_zero, List.set_cons_succ]
              refine wpAnyH_take (i := 27) (oi := ?tO52) (v := ?tV52) ?tA52 (by kernel_rfl) (by kernel_rfl) (by kernel_rfl) (fun _ _ _ h => h) (Or.inl ⟨?tB52, ?tC52⟩) (by assumption) ?tD52
              case tA52 => (first | (simp only [List.getElem?_toArray, List.getElem?_cons_succ, List.getElem?_cons_zero]; done) | (simp only [List.getElem?_toArray, List.getElem?_cons_succ, List.getElem?_cons_zero]; rfl))
              case tB52 => rfl
              case tC52 => (intro w hSw; (try dsimp only at hSw); go_simp; try with_reducible rfl)
              try simp only [Act.put, List.setIfInBounds_toArray, List.set_cons_zero, List.set_cons_succ]
              refine wpAnyH_take (i := 28) (oi := ?tO53) (v := ?tV53) ?tA53 (by kernel_rfl) (by kernel_rfl) (by kernel_rfl) (fun _ _ _ h => h) (Or.inl ⟨?tB53, ?tC53⟩) (by assumption) ?tD53
              case tA53 => (first | (simp only [List.getElem?_toArray, List.getElem?_cons_succ, List.getElem?_cons_zero]; done) | (simp only [List.getElem?_toArray, List.getElem?_cons_succ, List.getElem?_cons_zero]; rfl))
              case tB53 => rfl
              case tC53 => (intro w hSw; (try dsimp only at hSw); go_simp; try with_reducible rfl)
              try simp only [Act.put, List.setIfInBounds_toArray, List.set_cons_zero, List.set_cons_succ]
              refine wpAnyH_take (i := 29) (oi := ?tO54) (v := ?tV54) ?tA54 (by kernel_rfl) (by kernel_rfl) (by kernel_rfl) (fun _ _ _ h => h) (Or.inl ⟨?tB54, ?tC54⟩) (by assumption) ?tD54
              case tA54 => (first | (simp only [List.getElem?_toArray, List.getElem?_cons_succ, List.getElem?_cons_zero]; done) | (simp only [List.getElem?_toArray, List.getElem?_cons_succ, List.getElem?_cons_zero]; rfl))
              case tB54 => rfl
              case tC54 => (intro w hSw; (try dsimp only at hSw); go_simp; try with_reducible rfl)
              try simp only [Act.put, List.setIfInBounds_toArray, List.set_cons_zero, List.set_cons_succ]
              refine wpAnyH_take (i := 30) (oi := ?tO55) (v := ?tV55) ?tA55 (by kernel_rfl) (by kernel_rfl) (by kernel_rfl) (fun _ _ _ h => h) (Or.inl ⟨?tB55, ?tC55⟩) (by assumption) ?tD55
              case tA55 => (first | (simp only [List.getElem?_toArray, List.getElem?_cons_succ, List.getElem?_cons_zero]; done) | (simp only [List.getElem?_toArray, List.getElem?_cons_succ, List.getElem?_cons_zero]; rfl))
              case tB55 => rfl
              case tC55 => (intro w hSw; (try dsimp only at hSw); go_simp; try with_reducible rfl)
              try simp only [Act.put, List.setIfInBounds_toArray, List.set_cons_zero, List.set_cons_succ]
              refine wpAnyH_take (i := 31) (oi := ?tO56) (v := ?tV56) ?tA56 (by kernel_rfl) (by kernel_rfl) (by kernel_rfl) (fun _ _ _ h => h) (Or.inl ⟨?tB56, ?tC56⟩) (by assumption) ?tD56
              case tA56 => (first | (simp only [List.getElem?_toArray, List.getElem?_cons_succ, List.getElem?_cons_zero]; done) | (simp only [List.getElem?_toArray, List.getElem?_cons_succ, List.getElem?_cons_zero]; rfl))
              case tB56 => rfl
              case tC56 => (intro w hSw; (try dsimp only at hSw); go_simp; try with_reducible rfl)
              try simp only [Act.put, List.setIfInBounds_toArray, List.set_cons_zero, List.set_cons_succ]
              refine wpAnyH_take (i := 32) (oi := ?tO57) (v := ?tV57) ?tA57 (by kernel_rfl) (by kernel_rfl) (by kernel_rfl) (fun _ _ _ h => h) (Or.inl ⟨?tB57, ?tC57⟩) (by assumption) ?tD57
              case tA57 => (first | (simp only [List.getElem?_toArray, List.getElem?_cons_succ, List.getElem?_cons_zero]; done) | (simp only [List.getElem?_toArray, List.getElem?_cons_succ, List.getElem?_cons_zero]; rfl))
              case tB57 => rfl
              case tC57 => (intro w hSw; (try dsimp only at hSw); go_simp; try with_reducible rfl)
              try simp only [Act.put, List.setIfInBounds_toArray, List.set_cons_zero, List.set_cons_succ]
              refine wpAnyH_take (i := 33) (oi := ?tO58) (v := ?tV58) ?tA58 (by kernel_rfl) (by kernel_rfl) (by kernel_rfl) (fun _ _ _ h => h) (Or.inl ⟨?tB58, ?tC58⟩) (by assumption) ?tD58
              case tA58 => (first | (simp only [List.getElem?_toArray, List.getElem?_cons_succ, List.getElem?_cons_zero]; done) | (simp only [List.getElem?_toArray, List.getElem?_cons_succ, List.getElem?_cons_zero]; rfl))
              case tB58 => rfl
              case tC58 => (intro w hSw; (try dsimp only at hSw); go_simp; try with_reducible rfl)
              try simp only [Act.put, List.setIfInBounds_toArray, List.set_cons_zero, List.set_cons_succ]
              refine wpAnyH_take (i := 34) (oi := ?tO59) (v := ?tV59) ?tA59 (by kernel_rfl) (by kernel_rfl) (by kernel_rfl) (fun _ _ _ h => h) (Or.inl ⟨?tB59, ?tC59⟩) (by assumption) ?tD59
              case tA59 => (first | (simp only [List.getElem?_toArray, List.getElem?_cons_succ, List.getElem?_cons_zero]; done) | (simp only [List.getElem?_toArray, List.getElem?_cons_succ, List.getElem?_cons_zero]; rfl))
              case tB59 => rfl
              case tC59 => (intro w hSw; (try dsimp only at hSw); go_simp; try with_reducible rfl)
              try simp only [Act.put, List.setIfInBounds_toArray, List.set_cons_zero, List.set_cons_succ]
              refine wpAnyH_take (i := 35) (oi := ?tO60) (v := ?tV60) ?tA60 (by kernel_rfl) (by kernel_rfl) (by kernel_rfl) (fun _ _ _ h => h) (Or.inl ⟨?tB60, ?tC60⟩) (by assumption) ?tD60
              case tA60 => (first | (simp only [List.getElem?_toArray, List.getElem?_cons_succ, List.getElem?_cons_zero]; done) | (simp only [List.getElem?_toArray, List.getElem?_cons_succ, List.getElem?_cons_zero]; rfl))
              case tB60 => rfl
              case tC60 => (intro w hSw; (try dsimp only at hSw); go_simp; try with_reducible rfl)
              try simp only [Act.put, List.setIfInBounds_toArray, List.set_cons_zero, List.set_cons_succ]
              refine wpAnyH_take (i := 36) (oi := ?tO61) (v := ?tV61) ?tA61 (by kernel_rfl) (by kernel_rfl) (by kernel_rfl) (fun _ _ _ h => h) (Or.inl ⟨?tB61, ?tC61⟩) (by assumption) ?tD61
              case tA61 => (first | (simp only [List.getElem?_toArray, List.getElem?_cons_succ, List.getElem?_cons_zero]; done) | (simp only [List.getElem?_toArray, List.getElem?_cons_succ, List.getElem?_cons_zero]; rfl))
              case tB61 => rfl
              case tC61 => (intro w hSw; (try dsimp only at hSw); go_simp; try with_reducible rfl)
              try simp only [Act.put, List.setIfInBounds_toArray, List.set_cons_zero, List.set_cons_succ]
              refine wpAnyH_take (i := 37) (oi := ?tO62) (v := ?tV62) ?tA62 (by kernel_rfl) (by kernel_rfl) (by kernel_rfl) (fun _ _ _ h => h) (Or.inl ⟨?tB62, ?tC62⟩) (by assumption) ?tD62
              case tA62 => (first | (simp only [List.getElem?_toArray, List.getElem?_cons_succ, List.getElem?_cons_zero]; done) | (simp only [List.getElem?_toArray, List.getElem?_cons_succ, List.getElem?_cons_zero]; rfl))
              case tB62 => rfl
              case tC62 => (intro w hSw; (try dsimp only at hSw); go_simp; try with_reducible rfl)
              try simp only [Act.put, List.setIfInBounds_toArray, List.set_cons_zero, List.set_cons_succ]
              refine wpAnyH_take (i := 38) (oi := ?tO63) (v := ?tV63) ?tA63 (by kernel_rfl) (by kernel_rfl) (by kernel_rfl) (fun _ _ _ h => h) (Or.inl ⟨?tB63, ?tC63⟩) (by assumption) ?tD63
              case tA63 => (first | (simp only [List.getElem?_toArray, List.getElem?_cons_succ, List.getElem?_cons_zero]; done) | (simp only [List.getElem?_toArray, List.getElem?_cons_succ, List.getElem?_cons_zero]; rfl))
              case tB63 => rfl
              case tC63 => (intro w hSw; (try dsimp only at hSw); go_simp; try with_reducible rfl)
              try simp only [Act.put, List.setIfInBounds_toArray, List.set_cons_zero, List.set_cons_succ]
              refine wpAnyH_take (i := 39) (oi := ?tO64) (v := ?tV64) ?tA64 (by kernel_rfl) (by kernel_rfl) (by kernel_rfl) (fun _ _ _ h => h) (Or.inl ⟨?tB64, ?tC64⟩) (by assumption) ?tD64
              case tA64 => (first | (simp only [List.getElem?_toArray, List.getElem?_cons_succ, List.getElem?_cons_zero]; done) | (simp only [List.getElem?_toArray, List.getElem?_cons_succ, List.getElem?_cons_zero]; rfl))
              case tB64 => rfl
              case tC64 => (intro w hSw; (try dsimp only at hSw); go_simp; try with_reducible rfl)
              try simp only [Act.put, List.setIfInBounds_toArray, List.set_cons_zero, List.set_cons_succ]
              refine wpAnyH_done (by kernel_rfl) ?_ _
              refine NoPanic.normal ?_
              go_wp2_with fail
              go_ret
              exact ⟨by first | rfl | (rw [← HR.out]; rfl), bthen hbA hc3⟩
    -- END
  | false =>
    obtain rfl : R = false := hR.symm
    clear hR
    go_enter Try.func90, Try.ntmps90
    go_wp2_with fail
    rw [← HWA.out]
    -- NEAR NOT
    refine wp_region_noPanic ?_
    refine wp_region_held_drew (S := (fun w' => w'.cell? ⟨w.heap.size, 2, none⟩ = some (.int .i64 lo) ∧ w'.cell? ⟨w.heap.size, 3, none⟩ = some (.int .i64 hi) ∧ w'.cell? ⟨w.heap.size, 4, none⟩ = some (.slice (some ak) nk ck) ∧ w'.cell? ⟨gx, 0, none⟩ = some (.slice An nn cn) ∧ w'.cell? ⟨gx, 1, none⟩ = some (.slice Ae ne ce) ∧ w'.cell? ⟨gx, 3, none⟩ = some (.slice (some ⟨ga, 0, none⟩) N N) ∧ w'.cell? ak = some (.int .i64 (q : Nat)) ∧ w'.cell? ⟨ga, q, none⟩ = some (.slice (some ⟨g, 0, none⟩) ne ne) ∧ w'.cell? ⟨g, j, none⟩ = some (.bool (r j)))) (by kernel_rfl) ?hS0 (fun hHeld => ?hR0)
    case hS0 => (try dsimp only); go_keep
    case hR0 =>
      refine wpAnyH_take (i := 0) (oi := ?tO65) (v := ?tV65) ?tA65 (by kernel_rfl) (by kernel_rfl) (by kernel_rfl) (fun _ _ _ h => h) (Or.inl ⟨?tB65, ?tC65⟩) (by assumption) ?tD65
      case tA65 => (first | (simp only [List.getElem?_toArray, List.getElem?_cons_succ, List.getElem?_cons_zero]; done) | (simp only [List.getElem?_toArray, List.getElem?_cons_succ, List.getElem?_cons_zero]; rfl))
      case tB65 => rfl
      case tC65 => (intro w hSw; (try dsimp only at hSw); go_simp; try with_reducible rfl)
      try simp only [Act.put, List.setIfInBounds_toArray, List.set_cons_zero, List.set_cons_succ]
      refine wpAnyH_take (i := 1) (oi := ?tO66) (v := ?tV66) ?tA66 (by kernel_rfl) (by kernel_rfl) (by kernel_rfl) (fun _ _ _ h => h) (Or.inl ⟨?tB66, ?tC66⟩) (by assumption) ?tD66
      case tA66 => (first | (simp only [List.getElem?_toArray, List.getElem?_cons_succ, List.getElem?_cons_zero]; done) | (simp only [List.getElem?_toArray, List.getElem?_cons_succ, List.getElem?_cons_zero]; rfl))
      case tB66 => rfl
      case tC66 => (intro w hSw; (try dsimp only at hSw); go_simp; try with_reducible rfl)
      try simp only [Act.put, List.setIfInBounds_toArray, List.set_cons_zero, List.set_cons_succ]
      refine wpAnyH_take (i := 2) (oi := ?tO67) (v := ?tV67) ?tA67 (by kernel_rfl) (by kernel_rfl) (by kernel_rfl) (fun _ _ _ h => h) (Or.inl ⟨?tB67, ?tC67⟩) (by assumption) ?tD67
      case tA67 => (first | (simp only [List.getElem?_toArray, List.getElem?_cons_succ, List.getElem?_cons_zero]; done) | (simp only [List.getElem?_toArray, List.getElem?_cons_succ, List.getElem?_cons_zero]; rfl))
      case tB67 => rfl
      case tC67 => (intro w hSw; (try dsimp only at hSw); go_simp; try with_reducible rfl)
      try simp only [Act.put, List.setIfInBounds_toArray, List.set_cons_zero, List.set_cons_succ]
      refine wpAnyH_take (i := 3) (oi := ?tO68) (v := ?tV68) ?tA68 (by kernel_rfl) (by kernel_rfl) (by kernel_rfl) (fun _ _ _ h => h) (Or.inl ⟨?tB68, ?tC68⟩) (by assumption) ?tD68
      case tA68 => (first | (simp only [List.getElem?_toArray, List.getElem?_cons_succ, List.getElem?_cons_zero]; done) | (simp only [List.getElem?_toArray, List.getElem?_cons_succ, List.getElem?_cons_zero]; rfl))
      case tB68 => rfl
      case tC68 => (intro w hSw; (try dsimp only at hSw); go_simp; try with_reducible rfl)
      try simp only [Act.put, List.setIfInBounds_toArray, List.set_cons_zero, List.set_cons_succ]
      refine wpAnyH_take (i := 4) (oi := ?tO69) (v := ?tV69) ?tA69 (by kernel_rfl) (by kernel_rfl) (by kernel_rfl) (fun _ _ _ h => h) (Or.inl ⟨?tB69, ?tC69⟩) (by assumption) ?tD69
      case tA69 => (first | (simp only [List.getElem?_toArray, List.getElem?_cons_succ, List.getElem?_cons_zero]; done) | (simp only [List.getElem?_toArray, List.getElem?_cons_succ, List.getElem?_cons_zero]; rfl))
      case tB69 => rfl
      case tC69 => (intro w hSw; (try dsimp only at hSw); go_simp; try with_reducible rfl)
      try simp only [Act.put, List.setIfInBounds_toArray, List.set_cons_zero, List.set_cons_succ]
      refine wpAnyH_take (i := 5) (oi := ?tO70) (v := ?tV70) ?tA70 (by kernel_rfl) (by kernel_rfl) (by kernel_rfl) (fun _ _ _ h => h) (Or.inl ⟨?tB70, ?tC70⟩) (by assumption) ?tD70
      case tA70 => (first | (simp only [List.getElem?_toArray, List.getElem?_cons_succ, List.getElem?_cons_zero]; done) | (simp only [List.getElem?_toArray, List.getElem?_cons_succ, List.getElem?_cons_zero]; rfl))
      case tB70 => rfl
      case tC70 => (intro w hSw; (try dsimp only at hSw); go_simp; try with_reducible rfl)
      try simp only [Act.put, List.setIfInBounds_toArray, List.set_cons_zero, List.set_cons_succ]
      refine wpAnyH_take (i := 6) (oi := ?tO71) (v := ?tV71) ?tA71 (by kernel_rfl) (by kernel_rfl) (by kernel_rfl) (fun _ _ _ h => h) (Or.inl ⟨?tB71, ?tC71⟩) (by assumption) ?tD71
      case tA71 => (first | (simp only [List.getElem?_toArray, List.getElem?_cons_succ, List.getElem?_cons_zero]; done) | (simp only [List.getElem?_toArray, List.getElem?_cons_succ, List.getElem?_cons_zero]; rfl))
      case tB71 => rfl
      case tC71 => (intro w hSw; (try dsimp only at hSw); go_simp; try with_reducible rfl)
      try simp only [Act.put, List.setIfInBounds_toArray, List.set_cons_zero, List.set_cons_succ]
      refine wpAnyH_take (i := 7) (oi := ?tO72) (v := ?tV72) ?tA72 (by kernel_rfl) (by kernel_rfl) (by kernel_rfl) (fun _ _ _ h => h) (Or.inl ⟨?tB72, ?tC72⟩) (by assumption) ?tD72
      case tA72 => (first | (simp only [List.getElem?_toArray, List.getElem?_cons_succ, List.getElem?_cons_zero]; done) | (simp only [List.getElem?_toArray, List.getElem?_cons_succ, List.getElem?_cons_zero]; rfl))
      case tB72 => rfl
      case tC72 => (intro w hSw; (try dsimp only at hSw); go_simp; try with_reducible rfl)
      try simp only [Act.put, List.setIfInBounds_toArray, List.set_cons_zero, List.set_cons_succ]
      refine wpAnyH_take (i := 8) (oi := ?tO73) (v := ?tV73) ?tA73 (by kernel_rfl) (by kernel_rfl) (by kernel_rfl) (fun _ _ _ h => h) (Or.inl ⟨?tB73, ?tC73⟩) (by assumption) ?tD73
      case tA73 => (first | (simp only [List.getElem?_toArray, List.getElem?_cons_succ, List.getElem?_cons_zero]; done) | (simp only [List.getElem?_toArray, List.getElem?_cons_succ, List.getElem?_cons_zero]; rfl))
      case tB73 => rfl
      case tC73 => (intro w hSw; (try dsimp only at hSw); go_simp; try with_reducible rfl)
      try simp only [Act.put, List.setIfInBounds_toArray, List.set_cons_zero, List.set_cons_succ]
      refine wpAnyH_take (i := 9) (oi := ?tO74) (v := ?tV74) ?tA74 (by kernel_rfl) (by kernel_rfl) (by kernel_rfl) (fun _ _ _ h => h) (Or.inl ⟨?tB74, ?tC74⟩) (by assumption) ?tD74
      case tA74 => (first | (simp only [List.getElem?_toArray, List.getElem?_cons_succ, List.getElem?_cons_zero]; done) | (simp only [List.getElem?_toArray, List.getElem?_cons_succ, List.getElem?_cons_zero]; rfl))
      case tB74 => rfl
      case tC74 => (intro w hSw; (try dsimp only at hSw); go_simp; try with_reducible rfl)
      try simp only [Act.put, List.setIfInBounds_toArray, List.set_cons_zero, List.set_cons_succ]
      refine wpAnyH_take (i := 10) (oi := ?tO75) (v := ?tV75) ?tA75 (by kernel_rfl) (by kernel_rfl) (by kernel_rfl) (fun _ _ _ h => h) (Or.inl ⟨?tB75, ?tC75⟩) (by assumption) ?tD75
      case tA75 => (first | (simp only [List.getElem?_toArray, List.getElem?_cons_succ, List.getElem?_cons_zero]; done) | (simp only [List.getElem?_toArray, List.getElem?_cons_succ, List.getElem?_cons_zero]; rfl))
      case tB75 => rfl
      case tC75 => (intro w hSw; (try dsimp only at hSw); go_simp; try with_reducible rfl)
      try simp only [Act.put, List.setIfInBounds_toArray, List.set_cons_zero, List.set_cons_succ]
      refine wpAnyH_take (i := 11) (oi := ?tO76) (v := ?tV76) ?tA76 (by kernel_rfl) (by kernel_rfl) (by kernel_rfl) (fun _ _ _ h => h) (Or.inl ⟨?tB76, ?tC76⟩) (by assumption) ?tD76
      case tA76 => (first | (simp only [List.getElem?_toArray, List.getElem?_cons_succ, List.getElem?_cons_zero]; done) | (simp only [List.getElem?_toArray, List.getElem?_cons_succ, List.getElem?_cons_zero]; rfl))
      case tB76 => rfl
      case tC76 => (intro w hSw; (try dsimp only at hSw); go_simp; try with_reducible rfl)
      try simp only [Act.put, List.setIfInBounds_toArray, List.set_cons_zero, List.set_cons_succ]
      refine wpAnyH_take (i := 12) (oi := ?tO77) (v := ?tV77) ?tA77 (by kernel_rfl) (by kernel_rfl) (by kernel_rfl) (fun _ _ _ h => h) (Or.inl ⟨?tB77, ?tC77⟩) (by assumption) ?tD77
      case tA77 => (first | (simp only [List.getElem?_toArray, List.getElem?_cons_succ, List.getElem?_cons_zero]; done) | (simp only [List.getElem?_toArray, List.getElem?_cons_succ, List.getElem?_cons_zero]; rfl))
      case tB77 => rfl
      case tC77 => (intro w hSw; (try dsimp only at hSw); go_simp; try with_reducible rfl)
      try simp only [Act.put, List.setIfInBounds_toArray, List.set_cons_zero, List.set_cons_succ]
      refine wpAnyH_take (i := 13) (oi := ?tO78) (v := ?tV78) ?tA78 (by kernel_rfl) (by kernel_rfl) (by kernel_rfl) (fun _ _ _ h => h) (Or.inl ⟨?tB78, ?tC78⟩) (by assumption) ?tD78
      case tA78 => (first | (simp only [List.getElem?_toArray, List.getElem?_cons_succ, List.getElem?_cons_zero]; done) | (simp only [List.getElem?_toArray, List.getElem?_cons_succ, List.getElem?_cons_zero]; rfl))
      case tB78 => rfl
      case tC78 => (intro w hSw; (try dsimp only at hSw); go_simp; try with_reducible rfl)
      try simp only [Act.put, List.setIfInBounds_toArray, List.set_cons_zero, List.set_cons_succ]
      refine wpAnyH_take (i := 14) (oi := ?tO79) (v := ?tV79) ?tA79 (by kernel_rfl) (by kernel_rfl) (by kernel_rfl) (fun _ _ _ h => h) (Or.inl ⟨?tB79, ?tC79⟩) (by assumption) ?tD79
      case tA79 => (first | (simp only [List.getElem?_toArray, List.getElem?_cons_succ, List.getElem?_cons_zero]; done) | (simp only [List.getElem?_toArray, List.getElem?_cons_succ, List.getElem?_cons_zero]; rfl))
      case tB79 => rfl
      case tC79 => (intro w hSw; (try dsimp only at hSw); go_simp; try with_reducible rfl)
      try simp only [Act.put, List.setIfInBounds_toArray, List.set_cons_zero, List.set_cons_succ]
      refine wpAnyH_take (i := 15) (oi := ?tO80) (v := ?tV80) ?tA80 (by kernel_rfl) (by kernel_rfl) (by kernel_rfl) (fun _ _ _ h => h) (Or.inl ⟨?tB80, ?tC80⟩) (by assumption) ?tD80
      case tA80 => (first | (simp only [List.getElem?_toArray, List.getElem?_cons_succ, List.getElem?_cons_zero]; done) | (simp only [List.getElem?_toArray, List.getElem?_cons_succ, List.getElem?_cons_zero]; rfl))
      case tB80 => rfl
      case tC80 => (intro w hSw; (try dsimp only at hSw); go_simp; try with_reducible rfl)
      try simp only [Act.put, List.setIfInBounds_toArray, List.set_cons_zero, List.set_cons_succ]
      refine wpAnyH_take (i := 16) (oi := ?tO81) (v := ?tV81) ?tA81 (by kernel_rfl) (by kernel_rfl) (by kernel_rfl) (fun _ _ _ h => h) (Or.inl ⟨?tB81, ?tC81⟩) (by assumption) ?tD81
      case tA81 => (first | (simp only [List.getElem?_toArray, List.getElem?_cons_succ, List.getElem?_cons_zero]; done) | (simp only [List.getElem?_toArray, List.getElem?_cons_succ, List.getElem?_cons_zero]; rfl))
      case tB81 => rfl
      case tC81 => (intro w hSw; (try dsimp only at hSw); go_simp; try with_reducible rfl)
      try simp only [Act.put, List.setIfInBounds_toArray, List.set_cons_zero, List.set_cons_succ]
      refine wpAnyH_take (i := 17) (oi := ?tO82) (v := ?tV82) ?tA82 (by kernel_rfl) (by kernel_rfl) (by kernel_rfl) (fun _ _ _ h => h) (Or.inl ⟨?tB82, ?tC82⟩) (by assumption) ?tD82
      case tA82 => (first | (simp only [List.getElem?_toArray, List.getElem?_cons_succ, List.getElem?_cons_zero]; done) | (simp only [List.getElem?_toArray, List.getElem?_cons_succ, List.getElem?_cons_zero]; rfl))
      case tB82 => rfl
      case tC82 => (intro w hSw; (try dsimp only at hSw); go_simp; try with_reducible rfl)
      try simp only [Act.put, List.setIfInBounds_toArray, List.set_cons_zero, List.set_cons_succ]
      refine wpAnyH_take (i := 18) (oi := ?tO83) (v := ?tV83) ?tA83 (by kernel_rfl) (by kernel_rfl) (by kernel_rfl) (fun _ _ _ h => h) (Or.inl ⟨?tB83, ?tC83⟩) (by assumption) ?tD83
      case tA83 => (first | (simp only [List.getElem?_toArray, List.getElem?_cons_succ, List.getElem?_cons_zero]; done) | (simp only [List.getElem?_toArray, List.getElem?_cons_succ, List.getElem?_cons_zero]; rfl))
      case tB83 => rfl
      case tC83 => (intro w hSw; (try dsimp only at hSw); go_simp; try with_reducible rfl)
      try simp only [Act.put, List.setIfInBounds_toArray, List.set_cons_zero, List.set_cons_succ]
      refine wpAnyH_take (i := 19) (oi := ?tO84) (v := ?tV84) ?tA84 (by kernel_rfl) (by kernel_rfl) (by kernel_rfl) (fun _ _ _ h => h) (Or.inl ⟨?tB84, ?tC84⟩) (by assumption) ?tD84
      case tA84 => (first | (simp only [List.getElem?_toArray, List.getElem?_cons_succ, List.getElem?_cons_zero]; done) | (simp only [List.getElem?_toArray, List.getElem?_cons_succ, List.getElem?_cons_zero]; rfl))
      case tB84 => rfl
      case tC84 => (intro w hSw; (try dsimp only at hSw); go_simp; try with_reducible rfl)
      try simp only [Act.put, List.setIfInBounds_toArray, List.set_cons_zero, List.set_cons_succ]
      refine wpAnyH_take (i := 20) (oi := ?tO85) (v := ?tV85) ?tA85 (by kernel_rfl) (by kernel_rfl) (by kernel_rfl) (fun _ _ _ h => h) (Or.inl ⟨?tB85, ?tC85⟩) (by assumption) ?tD85
      case tA85 => (first | (simp only [List.getElem?_toArray, List.getElem?_cons_succ, List.getElem?_cons_zero]; done) | (simp only [List.getElem?_toArray, List.getElem?_cons_succ, List.getElem?_cons_zero]; rfl))
      case tB85 => rfl
      case tC85 => (intro w hSw; (try dsimp only at hSw); go_simp; try with_reducible rfl)
      try simp only [Act.put, List.setIfInBounds_toArray, List.set_cons_zero, List.set_cons_succ]
      refine wpAnyH_ready (rs := [21]) (by kernel_rfl) (by simp) ?_
      refine AllReadyH.cons (o := ?sO3) ?sA3 (fun K hK => ?sB3) ?sC3
      case sA3 => simp only [List.getElem?_toArray, List.getElem?_cons_succ, List.getElem?_cons_zero]; rfl
      case sC3 => exact AllReadyH.nil
      case sB3 =>
        go_simp
        go_at_call 119; refine (HAp.out _ (by first | exact hFA | exact hFA.drew)).mono ?_; rintro e w2 ⟨rfl, hw2⟩; have hc2 : Below wA.heap.size wA w2 := (by refine bel_trans ?_ hw2; first | exact bel_eqv (Below.refl _ wA) rfl rfl rfl rfl); have hFr := hFA.below hc2; obtain ⟨_, _, r2, r3, r4⟩ := blk5 (HBN.out.call hc2); have r5 := hFr.cell HT.out.t0; have r6 := hFr.cell HT.out.t1; have r7 := hFr.cell HX3.out; have r8 := hFr.cell HKD.out; have r9 := hFr.cell HAT.out; have r10 := hFr.cell HRC.out
        try go_wp2_with fail
        refine hK.out _ _ ?kS3 (fun hHeld => ?kR3)
        case kS3 => (try dsimp only); go_keep
        case kR3 =>
          clear hK K
          try simp only [Act.put, List.setIfInBounds_toArray, List.set_cons_zero, List.set_cons_succ]
          refine wpAnyH_ready (rs := [22]) (by kernel_rfl) (by simp) ?_
          refine AllReadyH.cons (o := ?sO4) ?sA4 (fun K hK => ?sB4) ?sC4
          case sA4 => simp only [List.getElem?_toArray, List.getElem?_cons_succ, List.getElem?_cons_zero]; rfl
          case sC4 => exact AllReadyH.nil
          case sB4 =>
            go_simp
            go_at_call 118; refine (HHs.out _).mono ?_; rintro e w3 ⟨rfl, hw3⟩; have hc3 : Below wA.heap.size wA w3 := (by refine bel_trans ?_ hw3; first | exact bel_eqv hc2 rfl rfl rfl rfl); have hFs := hFA.below hc3; obtain ⟨_, _, s2, s3, s4⟩ := blk5 (HBN.out.call hc3); have s5 := hFs.cell HT.out.t0; have s6 := hFs.cell HT.out.t1; have s7 := hFs.cell HX3.out; have s8 := hFs.cell HKD.out; have s9 := hFs.cell HAT.out; have s10 := hFs.cell HRC.out
            try go_wp2_with fail
            refine hK.out _ _ ?kS4 (fun hHeld => ?kR4)
            case kS4 => (try dsimp only); go_keep
            case kR4 =>
              clear hK K
              try simp only [Act.put, List.setIfInBounds_toArray, List.set_cons_zero, List.set_cons_succ]
              refine wpAnyH_take (i := 23) (oi := ?tO86) (v := ?tV86) ?tA86 (by kernel_rfl) (by kernel_rfl) (by kernel_rfl) (fun _ _ _ h => h) (Or.inl ⟨?tB86, ?tC86⟩) (by assumption) ?tD86
              case tA86 => (first | (simp only [List.getElem?_toArray, List.getElem?_cons_succ, List.getElem?_cons_zero]; done) | (simp only [List.getElem?_toArray, List.getElem?_cons_succ, List.getElem?_cons_zero]; rfl))
              case tB86 => rfl
              case tC86 => (intro w hSw; (try dsimp only at hSw); go_simp; try with_reducible rfl)
              try simp only [Act.put, List.setIfInBounds_toArray, List.set_cons_zero, List.set_cons_succ]
              refine wpAnyH_take (i := 24) (oi := ?tO87) (v := ?tV87) ?tA87 (by kernel_rfl) (by kernel_rfl) (by kernel_rfl) (fun _ _ _ h => h) (Or.inl ⟨?tB87, ?tC87⟩) (by assumption) ?tD87
              case tA87 => (first | (simp only [List.getElem?_toArray, List.getElem?_cons_succ, List.getElem?_cons_zero]; done) | (simp only [List.getElem?_toArray, List.getElem?_cons_succ, List.getElem?_cons_zero]; rfl))
              case tB87 => rfl
              case tC87 => (intro w hSw; (try dsimp only at hSw); go_simp; try with_reducible rfl)
              try simp only [Act.put, List.setIfInBounds_toArray, List.set_cons_zero, List.set_cons_succ]
              refine wpAnyH_take (i := 25) (oi := ?tO158) (v := undef) ?tA158 (by kernel_rfl) (by kernel_rfl) (by kernel_rfl) (fun _ _ _ h => h) (Or.inr ⟨?tB158, ?tC158⟩) (by assumption) ?tD158
              case tA158 => (first | (simp only [List.getElem?_toArray, List.getElem?_cons_succ, List.getElem?_cons_zero]; done) | (simp only [List.getElem?_toArray, List.getElem?_cons_succ, List.getElem?_cons_zero]; rfl))
              case tB158 => rfl
              case tC158 => rfl
              try simp only [Act.put, List.setIfInBounds_toArray, List.set_cons_zero, List.set_cons_succ]
              refine wpAnyH_take (i := 26) (oi := ?tO159) (v := undef) ?tA159 (by kernel_rfl) (by kernel_rfl) (by kernel_rfl) (fun _ _ _ h => h) (Or.inr ⟨?tB159, ?tC159⟩) (by assumption) ?tD159
              case tA159 => (first | (simp only [List.getElem?_toArray, List.getElem?_cons_succ, List.getElem?_cons_zero]; done) | (simp only [List.getElem?_toArray, List.getElem?_cons_succ, List.getElem?_cons_zero]; rfl))
              case tB159 => rfl
              case tC159 => rfl
              try simp only [Act.put, List.setIfInBounds_toArray, List.set_cons_zero, List.set_cons_succ]
              refine wpAnyH_take (i := 27) (oi := ?tO160) (v := undef) ?tA160 (by kernel_rfl) (by kernel_rfl) (by kernel_rfl) (fun _ _ _ h => h) (Or.inr ⟨?tB160, ?tC160⟩) (by assumption) ?tD160
              case tA160 => (first | (simp only [List.getElem?_toArray, List.getElem?_cons_succ, List.getElem?_cons_zero]; done) | (simp only [List.getElem?_toArray, List.getElem?_cons_succ, List.getElem?_cons_zero]; rfl))
              case tB160 => rfl
              case tC160 => rfl
              try simp only [Act.put, List.setIfInBounds_toArray, List.set_cons_zero, List.set_cons_succ]
              refine wpAnyH_take (i := 28) (oi := ?tO161) (v := undef) ?tA161 (by kernel_rfl) (by kernel_rfl) (by kernel_rfl) (fun _ _ _ h => h) (Or.inr ⟨?tB161, ?tC161⟩) (by assumption) ?tD161
              case tA161 => (first | (simp only [List.getElem?_toArray, List.getElem?_cons_succ, List.getElem?_cons_zero]; done) | (simp only [List.getElem?_toArray, List.getElem?_cons_succ, List.getElem?_cons_zero]; rfl))
              case tB161 => rfl
              case tC161 => rfl
              try simp only [Act.put, List.setIfInBounds_toArray, List.set_cons_zero, List.set_cons_succ]
              refine wpAnyH_take (i := 29) (oi := ?tO162) (v := undef) ?tA162 (by kernel_rfl) (by kernel_rfl) (by kernel_rfl) (fun _ _ _ h => h) (Or.inr ⟨?tB162, ?tC162⟩) (by assumption) ?tD162
              case tA162 => (first | (simp only [List.getElem?_toArray, List.getElem?_cons_succ, List.getElem?_cons_zero]; done) | (simp only [List.getElem?_toArray, List.getElem?_cons_succ, List.getElem?_cons_zero]; rfl))
              case tB162 => rfl
              case tC162 => rfl
              try simp only [Act.put, List.setIfInBounds_toArray, List.set_cons_zero, List.set_cons_succ]
              refine wpAnyH_take (i := 30) (oi := ?tO163) (v := undef) ?tA163 (by kernel_rfl) (by kernel_rfl) (by kernel_rfl) (fun _ _ _ h => h) (Or.inr ⟨?tB163, ?tC163⟩) (by assumption) ?tD163
              case tA163 => (first | (simp only [List.getElem?_toArray, List.getElem?_cons_succ, List.getElem?_cons_zero]; done) | (simp only [List.getElem?_toArray, List.getElem?_cons_succ, List.getElem?_cons_zero]; rfl))
              case tB163 => rfl
              case tC163 => rfl
              try simp only [Act.put, List.setIfInBounds_toArray, List.set_cons_zero, List.set_cons_succ]
              refine wpAnyH_take (i := 31) (oi := ?tO164) (v := undef) ?tA164 (by kernel_rfl) (by kernel_rfl) (by kernel_rfl) (fun _ _ _ h => h) (Or.inr ⟨?tB164, ?tC164⟩) (by assumption) ?tD164
              case tA164 => (first | (simp only [List.getElem?_toArray, List.getElem?_cons_succ, List.getElem?_cons_zero]; done) | (simp only [List.getElem?_toArray, List.getElem?_cons_succ, List.getElem?_cons_zero]; rfl))
              case tB164 => rfl
              case tC164 => rfl
              try simp only [Act.put, List.setIfInBounds_toArray, List.set_cons_zero, List.set_cons_succ]
              refine wpAnyH_take (i := 32) (oi := ?tO165) (v := undef) ?tA165 (by kernel_rfl) (by kernel_rfl) (by kernel_rfl) (fun _ _ _ h => h) (Or.inr ⟨?tB165, ?tC165⟩) (by assumption) ?tD165
              case tA165 => (first | (simp only [List.getElem?_toArray, List.getElem?_cons_succ, List.getElem?_cons_zero]; done) | (simp only [List.getElem?_toArray, List.getElem?_cons_succ, List.getElem?_cons_zero]; rfl))
              case tB165 => rfl
              case tC165 => rfl
              try simp only [Act.put, List.setIfInBounds_toArray, List.set_cons_zero, List.set_cons_succ]
              refine wpAnyH_take (i := 33) (oi := ?tO166) (v := undef) ?tA166 (by kernel_rfl) (by kernel_rfl) (by kernel_rfl) (fun _ _ _ h => h) (Or.inr ⟨?tB166, ?tC166⟩) (by assumption) ?tD166
              case tA166 => (first | (simp only [List.getElem?_toArray, List.getElem?_cons_succ, List.getElem?_cons_zero]; done) | (simp only [List.getElem?_toArray, List.getElem?_cons_succ, List.getElem?_cons_zero]; rfl))
              case tB166 => rfl
              case tC166 => rfl
              try simp only [Act.put, List.setIfInBounds_toArray, List.set_cons_zero, List.set_cons_succ]
              refine wpAnyH_take (i := 34) (oi := ?tO167) (v := undef) ?tA167 (by kernel_rfl) (by kernel_rfl) (by kernel_rfl) (fun _ _ _ h => h) (Or.inr ⟨?tB167, ?tC167⟩) (by assumption) ?tD167
              case tA167 => (first | (simp only [List.getElem?_toArray, List.getElem?_cons_succ, List.getElem?_cons_zero]; done) | (simp only [List.getElem?_toArray, List.getElem?_cons_succ, List.getElem?_cons_zero]; rfl))
              case tB167 => rfl
              case tC167 => rfl
              try simp only [Act.put, List.setIfInBounds_toArray, List.set_cons_zero, List.set_cons_succ]
              refine wpAnyH_take (i := 35) (oi := ?tO168) (v := undef) ?tA168 (by kernel_rfl) (by kernel_rfl) (by kernel_rfl) (fun _ _ _ h => h) (Or.inr ⟨?tB168, ?tC168⟩) (by assumption) ?tD168
              case tA168 => (first | (simp only [List.getElem?_toArray, List.getElem?_cons_succ, List.getElem?_cons_zero]; done) | (simp only [List.getElem?_toArray, List.getElem?_cons_succ, List.getElem?_cons_zero]; rfl))
              case tB168 => rfl
              case tC168 => rfl
              try simp only [Act.put, List.setIfInBounds_toArray, List.set_cons_zero, List.set_cons_succ]
              refine wpAnyH_take (i := 36) (oi := ?tO169) (v := undef) ?tA169 (by kernel_rfl) (by kernel_rfl) (by kernel_rfl) (fun _ _ _ h => h) (Or.inr ⟨?tB169, ?tC169⟩) (by assumption) ?tD169
              case tA169 => (first | (simp only [List.getElem?_toArray, List.getElem?_cons_succ, List.getElem?_cons_zero]; done) | (simp only [List.getElem?_toArray, List.getElem?_cons_succ, List.getElem?_cons_zero]; rfl))
              case tB169 => rfl
              case tC169 => rfl
              try simp only [Act.put, List.setIfInBounds_toArray, List.set_cons_zero, List.set_cons_succ]
              refine wpAnyH_take (i := 37) (oi := ?tO170) (v := undef) ?tA170 (by kernel_rfl) (by kernel_rfl) (by kernel_rfl) (fun _ _ _ h => h) (Or.inr ⟨?tB170, ?tC170⟩) (by assumption) ?tD170
              case tA170 => (first | (simp only [List.getElem?_toArray, List.getElem?_cons_succ, List.getElem?_cons_zero]; done) | (simp only [List.getElem?_toArray, List.getElem?_cons_succ, List.getElem?_cons_zero]; rfl))
              case tB170 => rfl
              case tC170 => rfl
              try simp only [Act.put, List.setIfInBounds_toArray, List.set_cons_zero, List.set_cons_succ]
              refine wpAnyH_take (i := 38) (oi := ?tO88) (v := ?tV88) ?tA88 (by kernel_rfl) (by kernel_rfl) (by kernel_rfl) (fun _ _ _ h => h) (Or.inl ⟨?tB88, ?tC88⟩) (by assumption) ?tD88
              case tA88 => (first | (simp only [List.getElem?_toArray, List.getElem?_cons_succ, List.getElem?_cons_zero]; done) | (simp only [List.getElem?_toArray, List.getElem?_cons_succ, List.getElem?_cons_zero]; rfl))
              case tB88 => rfl
              case tC88 => (intro w hSw; (try dsimp only at hSw); go_simp; try with_reducible rfl)
              try simp only [Act.put, List.setIfInBounds_toArray, List.set_cons_zero, List.set_cons_succ]
              refine wpAnyH_take (i := 39) (oi := ?tO89) (v := ?tV89) ?tA89 (by kernel_rfl) (by kernel_rfl) (by kernel_rfl) (fun _ _ _ h => h) (Or.inl ⟨?tB89, ?tC89⟩) (by assumption) ?tD89
              case tA89 => (first | (simp only [List.getElem?_toArray, List.getElem?_cons_succ, List.getElem?_cons_zero]; done) | (simp only [List.getElem?_toArray, List.getElem?_cons_succ, List.getElem?_cons_zero]; rfl))
              case tB89 => rfl
              case tC89 => (intro w hSw; (try dsimp only at hSw); go_simp; try with_reducible rfl)
              try simp only [Act.put, List.setIfInBounds_toArray, List.set_cons_zero, List.set_cons_succ]
              refine wpAnyH_done (by kernel_rfl) ?_ _
              refine NoPanic.normal ?_
              go_wp2_with fail
              go_ret
              exact ⟨by first | rfl | (rw [← HR.out]; rfl), bthen hbA hc3⟩
    -- END
end Go.Proofs.Ytdbbooibkiicnaa
/-! The walks of sat's temporal logic. -/
namespace Go.Proofs.Ytdbbooibkiicnaa
open Go.RowKit
theorem TruF.cle {F F' : Fz} {gx : Nat} {An : Option Addr} {nn cn : Nat} {Ae : Option Addr} {ne ce : Nat} {es : List Evt} (h : TruF F gx An nn cn Ae ne ce es) (hle : CLe F F') : TruF F' gx An nn cn Ae ne ce es := ⟨hle _ _ h.t0, hle _ _ h.t1, h.evs.cle hle⟩
theorem KidF.mono {F F' : Fz} {gx gb gn ga N : Nat} {ak : Addr} {nk ck k q g n : Nat} {r : Nat → Bool} (h : KidF F gx gb gn ga N ak nk ck k q g n r) (hle : CLe F F') (hb : ∀ b o, F b = some o → F' b = some o) : KidF F' gx gb gn ga N ak nk ck k q g n r :=
  ⟨hle _ _ h.b0, hle _ _ h.x3, hle _ _ h.n4, h.kk, hle _ _ h.kd, h.qN, hle _ _ h.at_, hb _ _ h.row⟩
theorem KidF.heap {F : Fz} {w : World} {gx gb gn ga N : Nat} {ak : Addr} {nk ck k q g n : Nat} {r : Nat → Bool} (h : KidF F gx gb gn ga N ak nk ck k q g n r) (hF : Sat F w) : KidF (heapF w) gx gb gn ga N ak nk ck k q g n r := h.mono hF.cle (fun b o e => hF b o e)
set_option maxRecDepth 100000 in
theorem kidv_w {w : World} (gb gn : Nat) (k : Int) : Calls Try.prog 86 #[.int .i64 k, .pointer (some ⟨gb, 0, none⟩), .pointer (some ⟨gn, 0, none⟩)] w fun e w' => ∃ gk, e = .returned (.func (.func 87) #[] #[.pointer (some ⟨gb, 0, none⟩), .pointer (some ⟨gn, 0, none⟩), .pointer (some ⟨gk, 0, none⟩)]) ∧ Below w.heap.size w w' ∧ Blk w' gk 3 #[.int .i64 k] := by
  have hmf : ∀ (fn : Fn) (first cap : Array Value) (w : World), (Instr.makeFunc fn first cap).run Try.prog w = .ok (.func fn first cap) w := fun _ _ _ _ => rfl
  go_enter Try.func86, Try.ntmps86
  go_wp2_with fail
  go_ret
  exact ⟨w.heap.size, rfl, balloc _ _, Blk.new w _ _⟩
theorem blkH {w : World} {g : Nat} {t : TypeId} {v : Value} (h : Blk w g t #[v]) : (heapF w).cell ⟨g, 0, none⟩ = some v := (h.cell 0).trans rfl
/-- What of memory the closures of a node lean on. -/
structure NodB (F : Fz) (gx gb gn gq gr : Nat) (kind : Int) (name : ByteArray) (lo hi : Int) (ak : Addr) (nk ck : Nat) : Prop where
  b0 : F.cell ⟨gb, 0, none⟩ = some (.pointer (some ⟨gx, 0, none⟩))
  n0 : F.cell ⟨gn, 0, none⟩ = some (.int .i64 kind)
  n1 : F.cell ⟨gn, 1, none⟩ = some (.string name)
  n2 : F.cell ⟨gn, 2, none⟩ = some (.int .i64 lo)
  n3 : F.cell ⟨gn, 3, none⟩ = some (.int .i64 hi)
  n4 : F.cell ⟨gn, 4, none⟩ = some (.slice (some ak) nk ck)
  q0 : F.cell ⟨gq, 0, none⟩ = some (.func (.func 86) #[] #[.pointer (some ⟨gb, 0, none⟩), .pointer (some ⟨gn, 0, none⟩)])
  r0 : F.cell ⟨gr, 0, none⟩ = some (.func (.func 88) #[] #[.pointer (some ⟨gb, 0, none⟩), .pointer (some ⟨gn, 0, none⟩)])
/-- What the node says of a point, by its kids' rows. -/
def timeU (es : List Evt) (ne : Nat) (kind lo hi : Int) (v : Nat → Bool) (i : Nat) : Bool :=
  if kind = 8 then (if 0 ≤ ((i : Int) - 1) ∧ ((i : Int) - 1) < (ne : Int) then hasD lo hi (gapE es i ((i : Int) - 1).toNat) && v ((i : Int) - 1).toNat else false)
  else if kind = 9 then (if 0 ≤ ((i : Int) + 1) ∧ ((i : Int) + 1) < (ne : Int) then hasD lo hi (gapE es i ((i : Int) + 1).toNat) && v ((i : Int) + 1).toNat else false)
  else if kind = 10 then someP (fun j => hasD lo hi (gapE es i j) && v j) allw i
  else if kind = 12 then someU (fun j => hasD lo hi (gapE es i j) && v j) allw (ne - i) i
  else if kind = 11 then !someP (fun j => hasD lo hi (gapE es i j) && !v j) allw i
  else !someU (fun j => hasD lo hi (gapE es i j) && !v j) allw (ne - i) i
set_option maxRecDepth 100000 in
set_option maxHeartbeats 4000000 in
theorem timeU_fn {F : Fz} (gx : Nat) (An : Option Addr) (nn cn : Nat) (Ae : Option Addr) (ne ce : Nat) (es : List Evt) (hT : TruF F gx An nn cn Ae ne ce es) (hn : ne ≤ 1000) (gb gn gq gr : Nat) (kind : Int) (name : ByteArray) (lo hi : Int) (ak : Addr) (nk ck : Nat) (hN : NodB F gx gb gn gq gr kind name lo hi ak nk ck) (hs : spanS lo hi = true)
    (ga N q g : Nat) (r : Nat → Bool) (hK : KidF F gx gb gn ga N ak nk ck 0 q g ne r) (hk : 8 ≤ kind ∧ kind ≤ 13) :
    IsFn F 89 #[.pointer (some ⟨gn, 0, none⟩), .pointer (some ⟨gb, 0, none⟩), .pointer (some ⟨gq, 0, none⟩), .pointer (some ⟨gr, 0, none⟩)] ne (timeU es ne kind lo hi r) := by
  refine ⟨enters_of Try.func89 (by kernel_rfl) rfl, fun X hX i hi' => ?_⟩
  show Calls Try.prog 89 #[.int .i64 (i : Nat), .pointer (some ⟨gn, 0, none⟩), .pointer (some ⟨gb, 0, none⟩), .pointer (some ⟨gq, 0, none⟩), .pointer (some ⟨gr, 0, none⟩)] X _
  have b0 := hX.cell hN.b0
  have n0 := hX.cell hN.n0
  have n1 := hX.cell hN.n1
  have n2 := hX.cell hN.n2
  have n3 := hX.cell hN.n3
  have n4 := hX.cell hN.n4
  have q0 := hX.cell hN.q0
  have r0 := hX.cell hN.r0
  have hkd := hK.kd
  rw [show ak.add 0 = ak by unfold Addr.add; simp] at hkd
  obtain ⟨R, hR⟩ : ∃ R, timeU es ne kind lo hi r i = R := ⟨_, rfl⟩
  rw [hR]
  unfold timeU at hR
  have wM : IntKind.i64.wrap ((i : Int) - 1) = (i : Int) - 1 := wrap_i (by omega) (by omega)
  have wP : IntKind.i64.wrap ((i : Int) + 1) = (i : Int) + 1 := wrap_i (by omega) (by omega)
  rcases (show kind = 8 ∨ kind = 9 ∨ kind = 10 ∨ kind = 11 ∨ kind = 12 ∨ kind = 13 by omega) with rfl | rfl | rfl | rfl | rfl | rfl
  · have HNr := Lib.hid (near_w hX gx An nn cn Ae ne ce es hT hn ga N ak nk ck q g r hK.x3 hK.kk hkd hK.qN hK.at_ hK.row 8 name lo hi hs i hi' ((i:Int)-1) R hR)
    clear hT hN hs hK hR hkd hX
    go_enter Try.func89, Try.ntmps89
    go_wp2_with (go_at_call 90; refine HNr.out.mono ?_; rintro e w3 ⟨rfl, hw3⟩)
    go_ret
    exact ⟨rfl, hw3⟩
  · have HNr := Lib.hid (near_w hX gx An nn cn Ae ne ce es hT hn ga N ak nk ck q g r hK.x3 hK.kk hkd hK.qN hK.at_ hK.row 9 name lo hi hs i hi' ((i:Int)+1) R hR)
    clear hT hN hs hK hR hkd hX
    go_enter Try.func89, Try.ntmps89
    go_wp2_with (go_at_call 90; refine HNr.out.mono ?_; rintro e w3 ⟨rfl, hw3⟩)
    go_ret
    exact ⟨rfl, hw3⟩
  · have HSm := Lib.hid (fun (Y : World) (gk : Nat) (h : Sat F Y) (hgk : Blk Y gk 3 #[.int .i64 (0 : Int)]) => someP_w (sat_heapF Y) gx An nn cn Ae ne ce es (hT.cle h.cle) hn lo hi hs i hi' 87 84 #[.pointer (some ⟨gb, 0, none⟩), .pointer (some ⟨gn, 0, none⟩), .pointer (some ⟨gk, 0, none⟩)] #[] r allw (kid_fn (hK.heap h) gk (blkH hgk)) (always_fn _ _) R hR)
    have HN := Lib.hid hN
    have HX := Lib.hid hX
    clear hT hN hs hK hR hkd
    go_enter Try.func89, Try.ntmps89
    go_wp2_with fail
    go_region_held3 (fun w' => w'.cell? ⟨gb, 0, none⟩ = some (.pointer (some ⟨gx, 0, none⟩)) ∧ w'.cell? ⟨gn, 2, none⟩ = some (.int .i64 lo) ∧ w'.cell? ⟨gn, 3, none⟩ = some (.int .i64 hi) ∧ w'.cell? ⟨gq, 0, none⟩ = some (.func (.func 86) #[] #[.pointer (some ⟨gb, 0, none⟩), .pointer (some ⟨gn, 0, none⟩)])) (go_keep)
      (first
        | (go_at_call 82; refine (HSm.out w2 gk (HX.out.below hc2) hgk).mono ?_; rintro e w3 ⟨rfl, hw3⟩; have hc3 : Below X.heap.size X w3 := (by refine bel_trans ?_ hw3; first | exact bel_eqv hc2 rfl rfl rfl rfl); have hFs := HX.out.below hc3; have s0 := hFs.cell HN.out.b0; have s1 := hFs.cell HN.out.n2; have s2 := hFs.cell HN.out.n3; have s3 := hFs.cell HN.out.q0)
        | (refine (kidv_w gb gn 0).mono ?_; rintro e w2 ⟨gk, rfl, hw2, hgk⟩; have hc2 : Below X.heap.size X w2 := (by refine bel_trans ?_ hw2; first | exact bel_eqv (Below.refl _ X) rfl rfl rfl rfl); have hFr := HX.out.below hc2; have r0 := hFr.cell HN.out.b0; have r1 := hFr.cell HN.out.n2; have r2 := hFr.cell HN.out.n3; have r3 := hFr.cell HN.out.q0))
    all_goals
      go_wp2_with fail
      go_ret
      exact ⟨rfl, hc3⟩
  · obtain ⟨T, hT2⟩ : ∃ T, someP (fun j => hasD lo hi (gapE es i j) && !r j) allw i = T := ⟨_, rfl⟩
    have hR : (!(someP (fun j => hasD lo hi (gapE es i j) && !r j) allw i)) = R := hR
    rw [hT2] at hR
    have HSm := Lib.hid (someP_w hX gx An nn cn Ae ne ce es hT hn lo hi hs i hi' 88 84 #[.pointer (some ⟨gb, 0, none⟩), .pointer (some ⟨gn, 0, none⟩)] #[] (fun j => !r j) allw (not_fn hK) (always_fn _ _) T hT2)
    have HR := Lib.hid hR
    clear hT hN hs hK hR hkd hX hT2
    go_enter Try.func89, Try.ntmps89
    go_wp2_with (go_at_call 82; refine HSm.out.mono ?_; rintro e w3 ⟨rfl, hw3⟩)
    go_ret
    exact ⟨by first | rfl | (rw [← HR.out]; rfl), hw3⟩
  · have HSm := Lib.hid (fun (Y : World) (gk : Nat) (h : Sat F Y) (hgk : Blk Y gk 3 #[.int .i64 (0 : Int)]) => someU_w (sat_heapF Y) gx An nn cn Ae ne ce es (hT.cle h.cle) hn lo hi hs i hi' 87 84 #[.pointer (some ⟨gb, 0, none⟩), .pointer (some ⟨gn, 0, none⟩), .pointer (some ⟨gk, 0, none⟩)] #[] r allw (kid_fn (hK.heap h) gk (blkH hgk)) (always_fn _ _) R hR)
    have HN := Lib.hid hN
    have HX := Lib.hid hX
    clear hT hN hs hK hR hkd
    go_enter Try.func89, Try.ntmps89
    go_wp2_with fail
    go_region_held3 (fun w' => w'.cell? ⟨gb, 0, none⟩ = some (.pointer (some ⟨gx, 0, none⟩)) ∧ w'.cell? ⟨gn, 2, none⟩ = some (.int .i64 lo) ∧ w'.cell? ⟨gn, 3, none⟩ = some (.int .i64 hi) ∧ w'.cell? ⟨gq, 0, none⟩ = some (.func (.func 86) #[] #[.pointer (some ⟨gb, 0, none⟩), .pointer (some ⟨gn, 0, none⟩)])) (go_keep)
      (first
        | (go_at_call 82; refine (HSm.out w2 gk (HX.out.below hc2) hgk).mono ?_; rintro e w3 ⟨rfl, hw3⟩; have hc3 : Below X.heap.size X w3 := (by refine bel_trans ?_ hw3; first | exact bel_eqv hc2 rfl rfl rfl rfl); have hFs := HX.out.below hc3; have s0 := hFs.cell HN.out.b0; have s1 := hFs.cell HN.out.n2; have s2 := hFs.cell HN.out.n3; have s3 := hFs.cell HN.out.q0)
        | (refine (kidv_w gb gn 0).mono ?_; rintro e w2 ⟨gk, rfl, hw2, hgk⟩; have hc2 : Below X.heap.size X w2 := (by refine bel_trans ?_ hw2; first | exact bel_eqv (Below.refl _ X) rfl rfl rfl rfl); have hFr := HX.out.below hc2; have r0 := hFr.cell HN.out.b0; have r1 := hFr.cell HN.out.n2; have r2 := hFr.cell HN.out.n3; have r3 := hFr.cell HN.out.q0))
    all_goals
      go_wp2_with fail
      go_ret
      exact ⟨rfl, hc3⟩
  · obtain ⟨T, hT2⟩ : ∃ T, someU (fun j => hasD lo hi (gapE es i j) && !r j) allw (ne - i) i = T := ⟨_, rfl⟩
    have hR : (!(someU (fun j => hasD lo hi (gapE es i j) && !r j) allw (ne - i) i)) = R := hR
    rw [hT2] at hR
    have HSm := Lib.hid (someU_w hX gx An nn cn Ae ne ce es hT hn lo hi hs i hi' 88 84 #[.pointer (some ⟨gb, 0, none⟩), .pointer (some ⟨gn, 0, none⟩)] #[] (fun j => !r j) allw (not_fn hK) (always_fn _ _) T hT2)
    have HR := Lib.hid hR
    clear hT hN hs hK hR hkd hX hT2
    go_enter Try.func89, Try.ntmps89
    go_wp2_with (go_at_call 82; refine HSm.out.mono ?_; rintro e w3 ⟨rfl, hw3⟩)
    go_ret
    exact ⟨by first | rfl | (rw [← HR.out]; rfl), hw3⟩
def timeB (es : List Evt) (ne : Nat) (kind lo hi : Int) (v w : Nat → Bool) (i : Nat) : Bool :=
  if kind = 14 then someP (fun j => hasD lo hi (gapE es i j) && w j) v i else someU (fun j => hasD lo hi (gapE es i j) && w j) v (ne - i) i
set_option maxRecDepth 100000 in
set_option maxHeartbeats 4000000 in
theorem timeB_fn {F : Fz} (gx : Nat) (An : Option Addr) (nn cn : Nat) (Ae : Option Addr) (ne ce : Nat) (es : List Evt) (hT : TruF F gx An nn cn Ae ne ce es) (hn : ne ≤ 1000) (gb gn gq gr : Nat) (kind : Int) (name : ByteArray) (lo hi : Int) (ak : Addr) (nk ck : Nat) (hN : NodB F gx gb gn gq gr kind name lo hi ak nk ck) (hs : spanS lo hi = true)
    (ga N q0 g0 q1 g1 : Nat) (r0 r1 : Nat → Bool) (hK0 : KidF F gx gb gn ga N ak nk ck 0 q0 g0 ne r0) (hK1 : KidF F gx gb gn ga N ak nk ck 1 q1 g1 ne r1) (hk : kind = 14 ∨ kind = 15) :
    IsFn F 89 #[.pointer (some ⟨gn, 0, none⟩), .pointer (some ⟨gb, 0, none⟩), .pointer (some ⟨gq, 0, none⟩), .pointer (some ⟨gr, 0, none⟩)] ne (timeB es ne kind lo hi r0 r1) := by
  refine ⟨enters_of Try.func89 (by kernel_rfl) rfl, fun X hX i hi' => ?_⟩
  show Calls Try.prog 89 #[.int .i64 (i : Nat), .pointer (some ⟨gn, 0, none⟩), .pointer (some ⟨gb, 0, none⟩), .pointer (some ⟨gq, 0, none⟩), .pointer (some ⟨gr, 0, none⟩)] X _
  have b0 := hX.cell hN.b0
  have n0 := hX.cell hN.n0
  have n1 := hX.cell hN.n1
  have n2 := hX.cell hN.n2
  have n3 := hX.cell hN.n3
  have n4 := hX.cell hN.n4
  have q0_ := hX.cell hN.q0
  have r0_ := hX.cell hN.r0
  obtain ⟨R, hR⟩ : ∃ R, timeB es ne kind lo hi r0 r1 i = R := ⟨_, rfl⟩
  rw [hR]
  unfold timeB at hR
  rcases hk with rfl | rfl
  · have HSm := Lib.hid (fun (Y : World) (gk1 gk0 : Nat) (h : Sat F Y) (h1 : Blk Y gk1 3 #[.int .i64 (1 : Int)]) (h0 : Blk Y gk0 3 #[.int .i64 (0 : Int)]) => someP_w (sat_heapF Y) gx An nn cn Ae ne ce es (hT.cle h.cle) hn lo hi hs i hi' 87 87 #[.pointer (some ⟨gb, 0, none⟩), .pointer (some ⟨gn, 0, none⟩), .pointer (some ⟨gk1, 0, none⟩)] #[.pointer (some ⟨gb, 0, none⟩), .pointer (some ⟨gn, 0, none⟩), .pointer (some ⟨gk0, 0, none⟩)] r1 r0 (kid_fn (hK1.heap h) gk1 (blkH h1)) (kid_fn (hK0.heap h) gk0 (blkH h0)) R hR)
    have HN := Lib.hid hN
    have HX := Lib.hid hX
    clear hT hN hs hK0 hK1 hR
    go_enter Try.func89, Try.ntmps89
    go_wp2_with fail
    -- REGION
    refine wp_region_noPanic ?_
    refine wp_region_held_drew (S := (fun w' => w'.cell? ⟨gb, 0, none⟩ = some (.pointer (some ⟨gx, 0, none⟩)) ∧ w'.cell? ⟨gn, 2, none⟩ = some (.int .i64 lo) ∧ w'.cell? ⟨gn, 3, none⟩ = some (.int .i64 hi) ∧ w'.cell? ⟨gq, 0, none⟩ = some (.func (.func 86) #[] #[.pointer (some ⟨gb, 0, none⟩), .pointer (some ⟨gn, 0, none⟩)]))) (by kernel_rfl) ?hS0 (fun hHeld => ?hR0)
    case hS0 => (try dsimp only); go_keep
    case hR0 =>
      refine wpAnyH_take (i := 0) (oi := ?tO90) (v := ?tV90) ?tA90 (by kernel_rfl) (by kernel_rfl) (by kernel_rfl) (fun _ _ _ h => h) (Or.inl ⟨?tB90, ?tC90⟩) (by assumption) ?tD90
      case tA90 => (first | (simp only [List.getElem?_toArray, List.getElem?_cons_succ, List.getElem?_cons_zero]; done) | (simp only [List.getElem?_toArray, List.getElem?_cons_succ, List.getElem?_cons_zero]; rfl))
      case tB90 => rfl
      case tC90 => (intro w hSw; (try dsimp only at hSw); go_simp; try with_reducible rfl)
      try simp only [Act.put, List.setIfInBounds_toArray, List.set_cons_zero, List.set_cons_succ]
      refine wpAnyH_take (i := 1) (oi := ?tO91) (v := ?tV91) ?tA91 (by kernel_rfl) (by kernel_rfl) (by kernel_rfl) (fun _ _ _ h => h) (Or.inl ⟨?tB91, ?tC91⟩) (by assumption) ?tD91
      case tA91 => (first | (simp only [List.getElem?_toArray, List.getElem?_cons_succ, List.getElem?_cons_zero]; done) | (simp only [List.getElem?_toArray, List.getElem?_cons_succ, List.getElem?_cons_zero]; rfl))
      case tB91 => rfl
      case tC91 => (intro w hSw; (try dsimp only at hSw); go_simp; try with_reducible rfl)
      try simp only [Act.put, List.setIfInBounds_toArray, List.set_cons_zero, List.set_cons_succ]
      refine wpAnyH_take (i := 2) (oi := ?tO92) (v := ?tV92) ?tA92 (by kernel_rfl) (by kernel_rfl) (by kernel_rfl) (fun _ _ _ h => h) (Or.inl ⟨?tB92, ?tC92⟩) (by assumption) ?tD92
      case tA92 => (first | (simp only [List.getElem?_toArray, List.getElem?_cons_succ, List.getElem?_cons_zero]; done) | (simp only [List.getElem?_toArray, List.getElem?_cons_succ, List.getElem?_cons_zero]; rfl))
      case tB92 => rfl
      case tC92 => (intro w hSw; (try dsimp only at hSw); go_simp; try with_reducible rfl)
      try simp only [Act.put, List.setIfInBounds_toArray, List.set_cons_zero, List.set_cons_succ]
      refine wpAnyH_take (i := 3) (oi := ?tO93) (v := ?tV93) ?tA93 (by kernel_rfl) (by kernel_rfl) (by kernel_rfl) (fun _ _ _ h => h) (Or.inl ⟨?tB93, ?tC93⟩) (by assumption) ?tD93
      case tA93 => (first | (simp only [List.getElem?_toArray, List.getElem?_cons_succ, List.getElem?_cons_zero]; done) | (simp only [List.getElem?_toArray, List.getElem?_cons_succ, List.getElem?_cons_zero]; rfl))
      case tB93 => rfl
      case tC93 => (intro w hSw; (try dsimp only at hSw); go_simp; try with_reducible rfl)
      try simp only [Act.put, List.setIfInBounds_toArray, List.set_cons_zero, List.set_cons_succ]
      refine wpAnyH_take (i := 4) (oi := ?tO94) (v := ?tV94) ?tA94 (by kernel_rfl) (by kernel_rfl) (by kernel_rfl) (fun _ _ _ h => h) (Or.inl ⟨?tB94, ?tC94⟩) (by assumption) ?tD94
      case tA94 => (first | (simp only [List.getElem?_toArray, List.getElem?_cons_succ, List.getElem?_cons_zero]; done) | (simp only [List.getElem?_toArray, List.getElem?_cons_succ, List.getElem?_cons_zero]; rfl))
      case tB94 => rfl
      case tC94 => (intro w hSw; (try dsimp only at hSw); go_simp; try with_reducible rfl)
      try simp only [Act.put, List.setIfInBounds_toArray, List.set_cons_zero, List.set_cons_succ]
      refine wpAnyH_take (i := 6) (oi := ?tO95) (v := ?tV95) ?tA95 (by kernel_rfl) (by kernel_rfl) (by kernel_rfl) (fun _ _ _ h => h) (Or.inl ⟨?tB95, ?tC95⟩) (by assumption) ?tD95
      case tA95 => (first | (simp only [List.getElem?_toArray, List.getElem?_cons_succ, List.getElem?_cons_zero]; done) | (simp only [List.getElem?_toArray, List.getElem?_cons_succ, List.getElem?_cons_zero]; rfl))
      case tB95 => rfl
      case tC95 => (intro w hSw; (try dsimp only at hSw); go_simp; try with_reducible rfl)
      try simp only [Act.put, List.setIfInBounds_toArray, List.set_cons_zero, List.set_cons_succ]
      refine wpAnyH_ready (rs := [5]) (by kernel_rfl) (by simp) ?_
      refine AllReadyH.cons (o := ?sO1) ?sA1 (fun K hK => ?sB1) ?sC1
      case sA1 => simp only [List.getElem?_toArray, List.getElem?_cons_succ, List.getElem?_cons_zero]; rfl
      case sB1 =>
        go_simp
        refine (kidv_w gb gn 1).mono ?_; rintro e w2 ⟨gk1, rfl, hw2, hgk1⟩; have hc2 : Below X.heap.size X w2 := (by refine bel_trans ?_ hw2; first | exact bel_eqv (Below.refl _ X) rfl rfl rfl rfl); have hFr := HX.out.below hc2; have r0 := hFr.cell HN.out.b0; have r1 := hFr.cell HN.out.n2; have r2 := hFr.cell HN.out.n3; have r3 := hFr.cell HN.out.q0
        try go_wp2_with fail
        refine hK.out _ _ ?kS1 (fun hHeld => ?kR1)
        case kS1 => (try dsimp only); go_keep
        case kR1 =>
          clear hK K
          try simp only [Act.put, List.setIfInBounds_toArray, List.set_cons_zero, List.set_cons_succ]
          refine wpAnyH_ready (rs := [7]) (by kernel_rfl) (by simp) ?_
          refine AllReadyH.cons (o := ?sO2) ?sA2 (fun K hK => ?sB2) ?sC2
          case sA2 => simp only [List.getElem?_toArray, List.getElem?_cons_succ, List.getElem?_cons_zero]; rfl
          case sB2 =>
            go_simp
            refine (kidv_w gb gn 0).mono ?_; rintro e w3 ⟨gk0, rfl, hw3, hgk0⟩; have hc3 : Below X.heap.size X w3 := (by refine bel_trans ?_ hw3; first | exact bel_eqv hc2 rfl rfl rfl rfl); have hgk1' := hgk1.call hw3; clear hgk1; have hgk1 := hgk1'; clear hgk1'; have hFs := HX.out.below hc3; have s0 := hFs.cell HN.out.b0; have s1 := hFs.cell HN.out.n2; have s2 := hFs.cell HN.out.n3; have s3 := hFs.cell HN.out.q0
            try go_wp2_with fail
            refine hK.out _ _ ?kS2 (fun hHeld => ?kR2)
            case kS2 => (try dsimp only); go_keep
            case kR2 =>
              clear hK K
              try simp only [Act.put, List.setIfInBounds_toArray, List.set_cons_zero, List.set_cons_succ]
              refine wpAnyH_ready (rs := [8]) (by kernel_rfl) (by simp) ?_
              refine AllReadyH.cons (o := ?sO3) ?sA3 (fun K hK => ?sB3) ?sC3
              case sA3 => simp only [List.getElem?_toArray, List.getElem?_cons_succ, List.getElem?_cons_zero]; rfl
              case sB3 =>
                go_simp
                refine (HSm.out w3 gk1 gk0 (HX.out.below hc3) hgk1 hgk0).mono ?_; rintro e w4 ⟨rfl, hw4⟩; have hc4 : Below X.heap.size X w4 := (by refine bel_trans ?_ hw4; first | exact bel_eqv hc3 rfl rfl rfl rfl); have hFt := HX.out.below hc4; have t0 := hFt.cell HN.out.b0; have t1 := hFt.cell HN.out.n2; have t2 := hFt.cell HN.out.n3; have t3 := hFt.cell HN.out.q0
                try go_wp2_with fail
                refine hK.out _ _ ?kS3 (fun hHeld => ?kR3)
                case kS3 => (try dsimp only); go_keep
                case kR3 =>
                  clear hK K
                  try simp only [Act.put, List.setIfInBounds_toArray, List.set_cons_zero, List.set_cons_succ]
                  refine wpAnyH_take (i := 9) (oi := ?tO96) (v := ?tV96) ?tA96 (by kernel_rfl) (by kernel_rfl) (by kernel_rfl) (fun _ _ _ h => h) (Or.inl ⟨?tB96, ?tC96⟩) (by assumption) ?tD96
                  case tA96 => (first | (simp only [List.getElem?_toArray, List.getElem?_cons_succ, List.getElem?_cons_zero]; done) | (simp only [List.getElem?_toArray, List.getElem?_cons_succ, List.getElem?_cons_zero]; rfl))
                  case tB96 => rfl
                  case tC96 => (intro w hSw; (try dsimp only at hSw); go_simp; try with_reducible rfl)
                  try simp only [Act.put, List.setIfInBounds_toArray, List.set_cons_zero, List.set_cons_succ]
                  refine wpAnyH_done (by kernel_rfl) ?_ _
                  refine NoPanic.normal ?_
                  go_wp2_with fail
                  go_ret
                  exact ⟨rfl, hc4⟩
              case sC3 =>
                exact AllReadyH.nil
          case sC2 =>
            exact AllReadyH.nil
      case sC1 =>
        exact AllReadyH.nil
    -- END
  · have HSm := Lib.hid (fun (Y : World) (gk1 gk0 : Nat) (h : Sat F Y) (h1 : Blk Y gk1 3 #[.int .i64 (1 : Int)]) (h0 : Blk Y gk0 3 #[.int .i64 (0 : Int)]) => someU_w (sat_heapF Y) gx An nn cn Ae ne ce es (hT.cle h.cle) hn lo hi hs i hi' 87 87 #[.pointer (some ⟨gb, 0, none⟩), .pointer (some ⟨gn, 0, none⟩), .pointer (some ⟨gk1, 0, none⟩)] #[.pointer (some ⟨gb, 0, none⟩), .pointer (some ⟨gn, 0, none⟩), .pointer (some ⟨gk0, 0, none⟩)] r1 r0 (kid_fn (hK1.heap h) gk1 (blkH h1)) (kid_fn (hK0.heap h) gk0 (blkH h0)) R hR)
    have HN := Lib.hid hN
    have HX := Lib.hid hX
    clear hT hN hs hK0 hK1 hR
    go_enter Try.func89, Try.ntmps89
    go_wp2_with fail
    -- REGION
    refine wp_region_noPanic ?_
    refine wp_region_held_drew (S := (fun w' => w'.cell? ⟨gb, 0, none⟩ = some (.pointer (some ⟨gx, 0, none⟩)) ∧ w'.cell? ⟨gn, 2, none⟩ = some (.int .i64 lo) ∧ w'.cell? ⟨gn, 3, none⟩ = some (.int .i64 hi) ∧ w'.cell? ⟨gq, 0, none⟩ = some (.func (.func 86) #[] #[.pointer (some ⟨gb, 0, none⟩), .pointer (some ⟨gn, 0, none⟩)]))) (by kernel_rfl) ?hS0 (fun hHeld => ?hR0)
    case hS0 => (try dsimp only); go_keep
    case hR0 =>
      refine wpAnyH_take (i := 0) (oi := ?tO97) (v := ?tV97) ?tA97 (by kernel_rfl) (by kernel_rfl) (by kernel_rfl) (fun _ _ _ h => h) (Or.inl ⟨?tB97, ?tC97⟩) (by assumption) ?tD97
      case tA97 => (first | (simp only [List.getElem?_toArray, List.getElem?_cons_succ, List.getElem?_cons_zero]; done) | (simp only [List.getElem?_toArray, List.getElem?_cons_succ, List.getElem?_cons_zero]; rfl))
      case tB97 => rfl
      case tC97 => (intro w hSw; (try dsimp only at hSw); go_simp; try with_reducible rfl)
      try simp only [Act.put, List.setIfInBounds_toArray, List.set_cons_zero, List.set_cons_succ]
      refine wpAnyH_take (i := 1) (oi := ?tO98) (v := ?tV98) ?tA98 (by kernel_rfl) (by kernel_rfl) (by kernel_rfl) (fun _ _ _ h => h) (Or.inl ⟨?tB98, ?tC98⟩) (by assumption) ?tD98
      case tA98 => (first | (simp only [List.getElem?_toArray, List.getElem?_cons_succ, List.getElem?_cons_zero]; done) | (simp only [List.getElem?_toArray, List.getElem?_cons_succ, List.getElem?_cons_zero]; rfl))
      case tB98 => rfl
      case tC98 => (intro w hSw; (try dsimp only at hSw); go_simp; try with_reducible rfl)
      try simp only [Act.put, List.setIfInBounds_toArray, List.set_cons_zero, List.set_cons_succ]
      refine wpAnyH_take (i := 2) (oi := ?tO99) (v := ?tV99) ?tA99 (by kernel_rfl) (by kernel_rfl) (by kernel_rfl) (fun _ _ _ h => h) (Or.inl ⟨?tB99, ?tC99⟩) (by assumption) ?tD99
      case tA99 => (first | (simp only [List.getElem?_toArray, List.getElem?_cons_succ, List.getElem?_cons_zero]; done) | (simp only [List.getElem?_toArray, List.getElem?_cons_succ, List.getElem?_cons_zero]; rfl))
      case tB99 => rfl
      case tC99 => (intro w hSw; (try dsimp only at hSw); go_simp; try with_reducible rfl)
      try simp only [Act.put, List.setIfInBounds_toArray, List.set_cons_zero, List.set_cons_succ]
      refine wpAnyH_take (i := 3) (oi := ?tO100) (v := ?tV100) ?tA100 (by kernel_rfl) (by kernel_rfl) (by kernel_rfl) (fun _ _ _ h => h) (Or.inl ⟨?tB100, ?tC100⟩) (by assumption) ?tD100
      case tA100 => (first | (simp only [List.getElem?_toArray, List.getElem?_cons_succ, List.getElem?_cons_zero]; done) | (simp only [List.getElem?_toArray, List.getElem?_cons_succ, List.getElem?_cons_zero]; rfl))
      case tB100 => rfl
      case tC100 => (intro w hSw; (try dsimp only at hSw); go_simp; try with_reducible rfl)
      try simp only [Act.put, List.setIfInBounds_toArray, List.set_cons_zero, List.set_cons_succ]
      refine wpAnyH_take (i := 4) (oi := ?tO101) (v := ?tV101) ?tA101 (by kernel_rfl) (by kernel_rfl) (by kernel_rfl) (fun _ _ _ h => h) (Or.inl ⟨?tB101, ?tC101⟩) (by assumption) ?tD101
      case tA101 => (first | (simp only [List.getElem?_toArray, List.getElem?_cons_succ, List.getElem?_cons_zero]; done) | (simp only [List.getElem?_toArray, List.getElem?_cons_succ, List.getElem?_cons_zero]; rfl))
      case tB101 => rfl
      case tC101 => (intro w hSw; (try dsimp only at hSw); go_simp; try with_reducible rfl)
      try simp only [Act.put, List.setIfInBounds_toArray, List.set_cons_zero, List.set_cons_succ]
      refine wpAnyH_take (i := 6) (oi := ?tO102) (v := ?tV102) ?tA102 (by kernel_rfl) (by kernel_rfl) (by kernel_rfl) (fun _ _ _ h => h) (Or.inl ⟨?tB102, ?tC102⟩) (by assumption) ?tD102
      case tA102 => (first | (simp only [List.getElem?_toArray, List.getElem?_cons_succ, List.getElem?_cons_zero]; done) | (simp only [List.getElem?_toArray, List.getElem?_cons_succ, List.getElem?_cons_zero]; rfl))
      case tB102 => rfl
      case tC102 => (intro w hSw; (try dsimp only at hSw); go_simp; try with_reducible rfl)
      try simp only [Act.put, List.setIfInBounds_toArray, List.set_cons_zero, List.set_cons_succ]
      refine wpAnyH_ready (rs := [5]) (by kernel_rfl) (by simp) ?_
      refine AllReadyH.cons (o := ?sO4) ?sA4 (fun K hK => ?sB4) ?sC4
      case sA4 => simp only [List.getElem?_toArray, List.getElem?_cons_succ, List.getElem?_cons_zero]; rfl
      case sB4 =>
        go_simp
        refine (kidv_w gb gn 1).mono ?_; rintro e w2 ⟨gk1, rfl, hw2, hgk1⟩; have hc2 : Below X.heap.size X w2 := (by refine bel_trans ?_ hw2; first | exact bel_eqv (Below.refl _ X) rfl rfl rfl rfl); have hFr := HX.out.below hc2; have r0 := hFr.cell HN.out.b0; have r1 := hFr.cell HN.out.n2; have r2 := hFr.cell HN.out.n3; have r3 := hFr.cell HN.out.q0
        try go_wp2_with fail
        refine hK.out _ _ ?kS4 (fun hHeld => ?kR4)
        case kS4 => (try dsimp only); go_keep
        case kR4 =>
          clear hK K
          try simp only [Act.put, List.setIfInBounds_toArray, List.set_cons_zero, List.set_cons_succ]
          refine wpAnyH_ready (rs := [7]) (by kernel_rfl) (by simp) ?_
          refine AllReadyH.cons (o := ?sO5) ?sA5 (fun K hK => ?sB5) ?sC5
          case sA5 => simp only [List.getElem?_toArray, List.getElem?_cons_succ, List.getElem?_cons_zero]; rfl
          case sB5 =>
            go_simp
            refine (kidv_w gb gn 0).mono ?_; rintro e w3 ⟨gk0, rfl, hw3, hgk0⟩; have hc3 : Below X.heap.size X w3 := (by refine bel_trans ?_ hw3; first | exact bel_eqv hc2 rfl rfl rfl rfl); have hgk1' := hgk1.call hw3; clear hgk1; have hgk1 := hgk1'; clear hgk1'; have hFs := HX.out.below hc3; have s0 := hFs.cell HN.out.b0; have s1 := hFs.cell HN.out.n2; have s2 := hFs.cell HN.out.n3; have s3 := hFs.cell HN.out.q0
            try go_wp2_with fail
            refine hK.out _ _ ?kS5 (fun hHeld => ?kR5)
            case kS5 => (try dsimp only); go_keep
            case kR5 =>
              clear hK K
              try simp only [Act.put, List.setIfInBounds_toArray, List.set_cons_zero, List.set_cons_succ]
              refine wpAnyH_ready (rs := [8]) (by kernel_rfl) (by simp) ?_
              refine AllReadyH.cons (o := ?sO6) ?sA6 (fun K hK => ?sB6) ?sC6
              case sA6 => simp only [List.getElem?_toArray, List.getElem?_cons_succ, List.getElem?_cons_zero]; rfl
              case sB6 =>
                go_simp
                refine (HSm.out w3 gk1 gk0 (HX.out.below hc3) hgk1 hgk0).mono ?_; rintro e w4 ⟨rfl, hw4⟩; have hc4 : Below X.heap.size X w4 := (by refine bel_trans ?_ hw4; first | exact bel_eqv hc3 rfl rfl rfl rfl); have hFt := HX.out.below hc4; have t0 := hFt.cell HN.out.b0; have t1 := hFt.cell HN.out.n2; have t2 := hFt.cell HN.out.n3; have t3 := hFt.cell HN.out.q0
                try go_wp2_with fail
                refine hK.out _ _ ?kS6 (fun hHeld => ?kR6)
                case kS6 => (try dsimp only); go_keep
                case kR6 =>
                  clear hK K
                  try simp only [Act.put, List.setIfInBounds_toArray, List.set_cons_zero, List.set_cons_succ]
                  refine wpAnyH_take (i := 9) (oi := ?tO103) (v := ?tV103) ?tA103 (by kernel_rfl) (by kernel_rfl) (by kernel_rfl) (fun _ _ _ h => h) (Or.inl ⟨?tB103, ?tC103⟩) (by assumption) ?tD103
                  case tA103 => (first | (simp only [List.getElem?_toArray, List.getElem?_cons_succ, List.getElem?_cons_zero]; done) | (simp only [List.getElem?_toArray, List.getElem?_cons_succ, List.getElem?_cons_zero]; rfl))
                  case tB103 => rfl
                  case tC103 => (intro w hSw; (try dsimp only at hSw); go_simp; try with_reducible rfl)
                  try simp only [Act.put, List.setIfInBounds_toArray, List.set_cons_zero, List.set_cons_succ]
                  refine wpAnyH_done (by kernel_rfl) ?_ _
                  refine NoPanic.normal ?_
                  go_wp2_with fail
                  go_ret
                  exact ⟨rfl, hc4⟩
              case sC6 =>
                exact AllReadyH.nil
          case sC5 =>
            exact AllReadyH.nil
      case sC4 =>
        exact AllReadyH.nil
    -- END
end Go.Proofs.Ytdbbooibkiicnaa
