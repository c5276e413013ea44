/- The walks of sat's closures: what a kid says, and what is not so. -/
import Derived.Test.YtdbbooibkiicnaaGreatSatM
set_option linter.unusedVariables false
set_option linter.unusedSimpArgs false
/-! The walks of sat's closures: what a kid says, and what is not so. -/
namespace Go.Proofs.YtdbbooibkiicnaaGreat
open Go.RowKit
/-- A row of Booleans, frozen. -/
def RowF (F : Fz) (g n : Nat) (r : Nat → Bool) : Prop := F g = some (.cells (rowV n r) 4 (0, 0))
theorem RowF.cell {F : Fz} {g n : Nat} {r : Nat → Bool} (h : RowF F g n r) {j : Nat} (hj : j < n) : F.cell ⟨g, j, none⟩ = some (.bool (r j)) := by
  unfold RowF at h
  unfold Fz.cell
  rw [h]
  show (rowV n r)[j]? = _
  exact get_rowV hj
/-- What of memory a node's kid says: x's box in gb, the node's in gn, the table at in ga; kid number k is node q, and its row r stands in block g. -/
structure KidF (F : Fz) (gx gb gn ga N : Nat) (ak : Addr) (nk ck : Nat) (k q g n : Nat) (r : Nat → Bool) : Prop where
  b0 : F.cell ⟨gb, 0, none⟩ = some (.pointer (some ⟨gx, 0, none⟩))
  x3 : F.cell ⟨gx, 3, none⟩ = some (.slice (some ⟨ga, 0, none⟩) N N)
  n4 : F.cell ⟨gn, 4, none⟩ = some (.slice (some ak) nk ck)
  kk : k < nk
  kd : F.cell (ak.add k) = some (.int .i64 (q : Nat))
  qN : q < N
  at_ : F.cell ⟨ga, q, none⟩ = some (.slice (some ⟨g, 0, none⟩) n n)
  row : RowF F g n r
set_option maxRecDepth 100000 in
theorem kid_fn {F : Fz} {gx gb gn ga N : Nat} {ak : Addr} {nk ck k q g n : Nat} {r : Nat → Bool} (h : KidF F gx gb gn ga N ak nk ck k q g n r) (gk : Nat) (hk : F.cell ⟨gk, 0, none⟩ = some (.int .i64 (k : Nat))) :
    IsFn F 88 #[.pointer (some ⟨gb, 0, none⟩), .pointer (some ⟨gn, 0, none⟩), .pointer (some ⟨gk, 0, none⟩)] n r := by
  refine ⟨enters_of Tryz.func88 (by kernel_rfl) rfl, fun X hX i hi => ?_⟩
  show Calls Tryz.prog 88 #[.int .i64 (i : Nat), .pointer (some ⟨gb, 0, none⟩), .pointer (some ⟨gn, 0, none⟩), .pointer (some ⟨gk, 0, none⟩)] X _
  have c0 := hX.cell h.b0
  have c1 := hX.cell h.x3
  have c2 := hX.cell h.n4
  have c3 := hX.cell h.kd
  have c4 := hX.cell h.at_
  have c5 := hX.cell (h.row.cell hi)
  have c6 := hX.cell hk
  have hkI : (k : Int) < (nk : Int) := by have := h.kk; omega
  have hqI : (q : Int) < (N : Int) := by have := h.qN; omega
  have hiI : (i : Int) < (n : Int) := by omega
  clear h hk
  go_enter Tryz.func88, Tryz.ntmps88
  go_wp2_with fail
  go_quiet (fail)
  go_wp2_with fail
  go_ret
  exact ⟨rfl, below_drewN (Below.refl _ _) _⟩
set_option maxRecDepth 100000 in
theorem not_fn {F : Fz} {gx gb gn ga N : Nat} {ak : Addr} {nk ck q g n : Nat} {r : Nat → Bool} (h : KidF F gx gb gn ga N ak nk ck 0 q g n r) :
    IsFn F 89 #[.pointer (some ⟨gb, 0, none⟩), .pointer (some ⟨gn, 0, none⟩)] n (fun j => !r j) := by
  refine ⟨enters_of Tryz.func89 (by kernel_rfl) rfl, fun X hX i hi => ?_⟩
  show Calls Tryz.prog 89 #[.int .i64 (i : Nat), .pointer (some ⟨gb, 0, none⟩), .pointer (some ⟨gn, 0, none⟩)] X _
  have c0 := hX.cell h.b0
  have c1 := hX.cell h.x3
  have c2 := hX.cell h.n4
  have c3 := hX.cell h.kd
  rw [show ak.add 0 = ak by unfold Addr.add; simp] at c3
  have c4 := hX.cell h.at_
  have c5 := hX.cell (h.row.cell hi)
  have hkI : (0 : Int) < (nk : Int) := by have := h.kk; omega
  have hqI : (q : Int) < (N : Int) := by have := h.qN; omega
  have hiI : (i : Int) < (n : Int) := by omega
  clear h
  go_enter Tryz.func89, Tryz.ntmps89
  go_wp2_with fail
  go_quiet (fail)
  go_wp2_with fail
  go_ret
  exact ⟨rfl, below_drewN (Below.refl _ _) _⟩
end Go.Proofs.YtdbbooibkiicnaaGreat
/-! The walk of sat's near. -/
namespace Go.Proofs.YtdbbooibkiicnaaGreat
open Go.RowKit
set_option maxRecDepth 100000 in
set_option maxHeartbeats 4000000 in
theorem near_w {F : Fz} {w : World} (hF : Sat F w) (gx : Nat) (An : Option Addr) (nn cn : Nat) (Ae : Option Addr) (ne ce : Nat) (es : List Evt) (hT : TruF F gx An nn cn Ae ne ce es) (hn : ne ≤ 1000) (ga N : Nat) (ak : Addr) (nk ck q g : Nat) (r : Nat → Bool)
    (hx3 : F.cell ⟨gx, 3, none⟩ = some (.slice (some ⟨ga, 0, none⟩) N N)) (hk0 : 0 < nk) (hkd : F.cell ak = some (.int .i64 (q : Nat))) (hqN : q < N) (hat : F.cell ⟨ga, q, none⟩ = some (.slice (some ⟨g, 0, none⟩) ne ne)) (hrow : RowF F g ne r)
    (kind : Int) (name : ByteArray) (lo hi : Int) (hs : spanS lo hi = true) (i : Nat) (hi' : i < ne) (J : Int) (R : Bool) (hR : (if 0 ≤ J ∧ J < (ne : Int) then hasD lo hi (gapE es i J.toNat) && r J.toNat else false) = R) :
    Calls Tryz.prog 91 #[.pointer (some ⟨gx, 0, none⟩), .agg #[.int .i64 kind, .string name, .int .i64 lo, .int .i64 hi, .slice (some ak) nk ck], .int .i64 (i : Nat), .int .i64 J] w fun e w' => e = .returned (.bool R) ∧ Below w.heap.size w w' := by
  have hbA := balloc w (.cells #[.int .i64 kind, .string name, .int .i64 lo, .int .i64 hi, .slice (some ak) nk ck] 62)
  have HBN := Lib.hid (Blk.new w 62 #[.int .i64 kind, .string name, .int .i64 lo, .int .i64 hi, .slice (some ak) nk ck])
  have hFA := hF.below hbA
  obtain ⟨wA, hwA⟩ : ∃ wA, wA = w.alloc (.cells #[.int .i64 kind, .string name, .int .i64 lo, .int .i64 hi, .slice (some ak) nk ck] 62) := ⟨_, rfl⟩
  rw [← hwA] at hbA HBN hFA
  obtain ⟨m0, m1, m2, m3, m4⟩ := blk5 HBN.out
  have x0 := hFA.cell hT.t0
  have x1 := hFA.cell hT.t1
  have HT := Lib.hid hT
  have HWA := Lib.hid hwA
  have hkI : (0 : Int) < (nk : Int) := by omega
  have hqI : (q : Int) < (N : Int) := by omega
  clear hwA
  by_cases hneg : J < 0
  · rw [if_neg (by omega)] at hR
    subst hR
    have hd : decide (0 ≤ J) = false := decide_eq_false (by omega)
    clear hT hx3 hkd hat hrow hs
    go_enter Tryz.func91, Tryz.ntmps91
    go_wp2_with fail
    rw [← HWA.out]
  -- NEAR NEG
    refine wp_region_noPanic ?_
    refine wp_region_held_drew (S := (fun w' => w'.cell? ⟨w.heap.size, 2, none⟩ = some (.int .i64 lo) ∧ w'.cell? ⟨w.heap.size, 3, none⟩ = some (.int .i64 hi) ∧ w'.cell? ⟨w.heap.size, 4, none⟩ = some (.slice (some ak) nk ck) ∧ w'.cell? ⟨gx, 0, none⟩ = some (.slice An nn cn) ∧ w'.cell? ⟨gx, 1, none⟩ = some (.slice Ae ne ce))) (by kernel_rfl) ?hS0 (fun hHeld => ?hR0)
    case hS0 => (try dsimp only); go_keep
    case hR0 =>
      refine tk 0 (h := ?_)
      try simp only [pn]
      refine tk 1 (h := ?_)
      try simp only [pn]
      refine tk 2 (h := ?_)
      try simp only [pn]
      refine sk 3 (h := ?_)
      try simp only [pn]
      refine sk 4 (h := ?_)
      try simp only [pn]
      refine sk 5 (h := ?_)
      try simp only [pn]
      refine sk 6 (h := ?_)
      try simp only [pn]
      refine sk 7 (h := ?_)
      try simp only [pn]
      refine sk 8 (h := ?_)
      try simp only [pn]
      refine sk 9 (h := ?_)
      try simp only [pn]
      refine sk 10 (h := ?_)
      try simp only [pn]
      refine tk 11 (h := ?_)
      try simp only [pn]
      refine tk 12 (h := ?_)
      try simp only [pn]
      refine sk 13 (h := ?_)
      try simp only [pn]
      refine sk 14 (h := ?_)
      try simp only [pn]
      refine sk 15 (h := ?_)
      try simp only [pn]
      refine sk 16 (h := ?_)
      try simp only [pn]
      refine sk 17 (h := ?_)
      try simp only [pn]
      refine sk 18 (h := ?_)
      try simp only [pn]
      refine sk 19 (h := ?_)
      try simp only [pn]
      refine sk 20 (h := ?_)
      try simp only [pn]
      refine sk 21 (h := ?_)
      try simp only [pn]
      refine sk 22 (h := ?_)
      try simp only [pn]
      refine tk 23 (h := ?_)
      try simp only [pn]
      refine tk 24 (h := ?_)
      try simp only [pn]
      refine sk 25 (h := ?_)
      try simp only [pn]
      refine sk 26 (h := ?_)
      try simp only [pn]
      refine sk 27 (h := ?_)
      try simp only [pn]
      refine sk 28 (h := ?_)
      try simp only [pn]
      refine sk 29 (h := ?_)
      try simp only [pn]
      refine sk 30 (h := ?_)
      try simp only [pn]
      refine sk 31 (h := ?_)
      try simp only [pn]
      refine sk 32 (h := ?_)
      try simp only [pn]
      refine sk 33 (h := ?_)
      try simp only [pn]
      refine sk 34 (h := ?_)
      try simp only [pn]
      refine sk 35 (h := ?_)
      try simp only [pn]
      refine sk 36 (h := ?_)
      try simp only [pn]
      refine sk 37 (h := ?_)
      try simp only [pn]
      refine tk 38 (h := ?_)
      try simp only [pn]
      refine tk 39 (h := ?_)
      try simp only [pn]
      refine wpAnyH_done (by kernel_rfl) ?_ _
      refine NoPanic.normal ?_
      go_wp2_with fail
      go_ret
      exact ⟨rfl, by first | exact hbA | exact hbA.drew | exact below_drewN hbA _⟩
  -- END
  by_cases hbig : (ne : Int) ≤ J
  · rw [if_neg (by omega)] at hR
    subst hR
    have hd : 0 ≤ J := by omega
    have hd2 : decide (J < (ne : Int)) = false := decide_eq_false (by omega)
    clear hT hx3 hkd hat hrow hs
    go_enter Tryz.func91, Tryz.ntmps91
    go_wp2_with fail
    rw [← HWA.out]
  -- NEAR BIG
    refine wp_region_noPanic ?_
    refine wp_region_held_drew (S := (fun w' => w'.cell? ⟨w.heap.size, 2, none⟩ = some (.int .i64 lo) ∧ w'.cell? ⟨w.heap.size, 3, none⟩ = some (.int .i64 hi) ∧ w'.cell? ⟨w.heap.size, 4, none⟩ = some (.slice (some ak) nk ck) ∧ w'.cell? ⟨gx, 0, none⟩ = some (.slice An nn cn) ∧ w'.cell? ⟨gx, 1, none⟩ = some (.slice Ae ne ce))) (by kernel_rfl) ?hS0 (fun hHeld => ?hR0)
    case hS0 => (try dsimp only); go_keep
    case hR0 =>
      refine tk 0 (h := ?_)
      try simp only [pn]
      refine tk 1 (h := ?_)
      try simp only [pn]
      refine tk 2 (h := ?_)
      try simp only [pn]
      refine tk 3 (h := ?_)
      try simp only [pn]
      refine tk 4 (h := ?_)
      try simp only [pn]
      refine tk 5 (h := ?_)
      try simp only [pn]
      refine tk 6 (h := ?_)
      try simp only [pn]
      refine tk 7 (h := ?_)
      try simp only [pn]
      refine tk 8 (h := ?_)
      try simp only [pn]
      refine tk 9 (h := ?_)
      try simp only [pn]
      refine tk 10 (h := ?_)
      try simp only [pn]
      refine tk 11 (h := ?_)
      try simp only [pn]
      refine tk 12 (h := ?_)
      try simp only [pn]
      refine sk 13 (h := ?_)
      try simp only [pn]
      refine sk 14 (h := ?_)
      try simp only [pn]
      refine sk 15 (h := ?_)
      try simp only [pn]
      refine sk 16 (h := ?_)
      try simp only [pn]
      refine sk 17 (h := ?_)
      try simp only [pn]
      refine sk 18 (h := ?_)
      try simp only [pn]
      refine sk 19 (h := ?_)
      try simp only [pn]
      refine sk 20 (h := ?_)
      try simp only [pn]
      refine sk 21 (h := ?_)
      try simp only [pn]
      refine sk 22 (h := ?_)
      try simp only [pn]
      refine tk 23 (h := ?_)
      try simp only [pn]
      refine tk 24 (h := ?_)
      try simp only [pn]
      refine sk 25 (h := ?_)
      try simp only [pn]
      refine sk 26 (h := ?_)
      try simp only [pn]
      refine sk 27 (h := ?_)
      try simp only [pn]
      refine sk 28 (h := ?_)
      try simp only [pn]
      refine sk 29 (h := ?_)
      try simp only [pn]
      refine sk 30 (h := ?_)
      try simp only [pn]
      refine sk 31 (h := ?_)
      try simp only [pn]
      refine sk 32 (h := ?_)
      try simp only [pn]
      refine sk 33 (h := ?_)
      try simp only [pn]
      refine sk 34 (h := ?_)
      try simp only [pn]
      refine sk 35 (h := ?_)
      try simp only [pn]
      refine sk 36 (h := ?_)
      try simp only [pn]
      refine sk 37 (h := ?_)
      try simp only [pn]
      refine tk 38 (h := ?_)
      try simp only [pn]
      refine tk 39 (h := ?_)
      try simp only [pn]
      refine wpAnyH_done (by kernel_rfl) ?_ _
      refine NoPanic.normal ?_
      go_wp2_with fail
      go_ret
      exact ⟨rfl, by first | exact hbA | exact hbA.drew | exact below_drewN hbA _⟩
  -- END
  obtain ⟨j, rfl⟩ : ∃ j : Nat, J = (j : Int) := ⟨J.toNat, by omega⟩
  have hjn : j < ne := by omega
  rw [if_pos (by omega), Int.toNat_natCast] at hR
  have hd : (0 : Int) ≤ (j : Int) := by omega
  have hd2 : (j : Int) < (ne : Int) := by omega
  have HX3 := Lib.hid hx3
  have HKD := Lib.hid hkd
  have HAT := Lib.hid hat
  have HRC := Lib.hid (hrow.cell hjn)
  have x3 := hFA.cell hx3
  have x4 := hFA.cell hkd
  have x5 := hFA.cell hat
  have x6 := hFA.cell (hrow.cell hjn)
  have HAp := Lib.hid (fun (X : World) (h : Sat F X) => apart_w h es An nn cn Ae ne ce hT.evs i j hi' hjn)
  have HHs := Lib.hid (fun (X : World) => ihas_w lo hi hs (gapE es i j) (by
    have h1 := (hT.evs.at_ hi').1
    have h2 := (hT.evs.at_ hjn).1
    unfold gapE; omega) X)
  obtain ⟨D, hD⟩ : ∃ D, hasD lo hi (gapE es i j) = D := ⟨_, rfl⟩
  rw [hD] at HHs hR
  clear hT hx3 hkd hat hrow hs hneg hbig hD
  cases D with
  | true =>
    have HR : Hid (r j = R) := Lib.hid hR
    clear hR
    go_enter Tryz.func91, Tryz.ntmps91
    go_wp2_with fail
    rw [← HWA.out]
    -- NEAR YES
    refine wp_region_noPanic ?_
    refine wp_region_held_drew (S := (fun w' => w'.cell? ⟨w.heap.size, 2, none⟩ = some (.int .i64 lo) ∧ w'.cell? ⟨w.heap.size, 3, none⟩ = some (.int .i64 hi) ∧ w'.cell? ⟨w.heap.size, 4, none⟩ = some (.slice (some ak) nk ck) ∧ w'.cell? ⟨gx, 0, none⟩ = some (.slice An nn cn) ∧ w'.cell? ⟨gx, 1, none⟩ = some (.slice Ae ne ce) ∧ w'.cell? ⟨gx, 3, none⟩ = some (.slice (some ⟨ga, 0, none⟩) N N) ∧ w'.cell? ak = some (.int .i64 (q : Nat)) ∧ w'.cell? ⟨ga, q, none⟩ = some (.slice (some ⟨g, 0, none⟩) ne ne) ∧ w'.cell? ⟨g, j, none⟩ = some (.bool (r j)))) (by kernel_rfl) ?hS0 (fun hHeld => ?hR0)
    case hS0 => (try dsimp only); go_keep
    case hR0 =>
      refine tk 0 (h := ?_)
      try simp only [pn]
      refine tk 1 (h := ?_)
      try simp only [pn]
      refine tk 2 (h := ?_)
      try simp only [pn]
      refine tk 3 (h := ?_)
      try simp only [pn]
      refine tk 4 (h := ?_)
      try simp only [pn]
      refine tk 5 (h := ?_)
      try simp only [pn]
      refine tk 6 (h := ?_)
      try simp only [pn]
      refine tk 7 (h := ?_)
      try simp only [pn]
      refine tk 8 (h := ?_)
      try simp only [pn]
      refine tk 9 (h := ?_)
      try simp only [pn]
      refine tk 10 (h := ?_)
      try simp only [pn]
      refine tk 11 (h := ?_)
      try simp only [pn]
      refine tk 12 (h := ?_)
      try simp only [pn]
      refine tk 13 (h := ?_)
      try simp only [pn]
      refine tk 14 (h := ?_)
      try simp only [pn]
      refine tk 15 (h := ?_)
      try simp only [pn]
      refine tk 16 (h := ?_)
      try simp only [pn]
      refine tk 17 (h := ?_)
      try simp only [pn]
      refine tk 18 (h := ?_)
      try simp only [pn]
      refine tk 19 (h := ?_)
      try simp only [pn]
      refine tk 20 (h := ?_)
      try simp only [pn]
      refine wpAnyH_ready (rs := [21]) (by kernel_rfl) (by simp) ?_
      refine AllReadyH.cons (o := ?sO1) ?sA1 (fun K hK => ?sB1) ?sC1
      case sA1 => simp only [List.getElem?_toArray, List.getElem?_cons_succ, List.getElem?_cons_zero]; rfl
      case sC1 => exact AllReadyH.nil
      case sB1 =>
        go_simp
        go_at_call 121; refine (HAp.out _ (by first | exact hFA | exact hFA.drew)).mono ?_; rintro e w2 ⟨rfl, hw2⟩; have hc2 : Below wA.heap.size wA w2 := (by refine bel_trans ?_ hw2; first | exact bel_eqv (Below.refl _ wA) rfl rfl rfl rfl); have hFr := hFA.below hc2; obtain ⟨_, _, r2, r3, r4⟩ := blk5 (HBN.out.call hc2); have r5 := hFr.cell HT.out.t0; have r6 := hFr.cell HT.out.t1; have r7 := hFr.cell HX3.out; have r8 := hFr.cell HKD.out; have r9 := hFr.cell HAT.out; have r10 := hFr.cell HRC.out
        try go_wp2_with fail
        refine hK.out _ _ ?kS1 (fun hHeld => ?kR1)
        case kS1 => (try dsimp only); go_keep
        case kR1 =>
          clear hK K
          try simp only [Act.put, List.setIfInBounds_toArray, List.set_cons_zero, List.set_cons_succ]
          refine wpAnyH_ready (rs := [22]) (by kernel_rfl) (by simp) ?_
          refine AllReadyH.cons (o := ?sO2) ?sA2 (fun K hK => ?sB2) ?sC2
          case sA2 => simp only [List.getElem?_toArray, List.getElem?_cons_succ, List.getElem?_cons_zero]; rfl
          case sC2 => exact AllReadyH.nil
          case sB2 =>
            go_simp
            go_at_call 120; refine (HHs.out _).mono ?_; rintro e w3 ⟨rfl, hw3⟩; have hc3 : Below wA.heap.size wA w3 := (by refine bel_trans ?_ hw3; first | exact bel_eqv hc2 rfl rfl rfl rfl); have hFs := hFA.below hc3; obtain ⟨_, _, s2, s3, s4⟩ := blk5 (HBN.out.call hc3); have s5 := hFs.cell HT.out.t0; have s6 := hFs.cell HT.out.t1; have s7 := hFs.cell HX3.out; have s8 := hFs.cell HKD.out; have s9 := hFs.cell HAT.out; have s10 := hFs.cell HRC.out
            try go_wp2_with fail
            refine hK.out _ _ ?kS2 (fun hHeld => ?kR2)
            case kS2 => (try dsimp only); go_keep
            case kR2 =>
              clear hK K
              try simp only [Act.put, List.setIfInBounds_toArray, List.set_cons_zero, List.set_cons_succ]
              refine tk 23 (h := ?_)
              try simp only [pn]
              refine tk 24 (h := ?_)
              try simp only [pn]
              refine tk 25 (h := ?_)
              try simp only [pn]
              refine tk 26 (h := ?_)
              try simp only [pn]
              refine tk 27 (h := ?_)
              try simp only [pn]
              refine tk 28 (h := ?_)
              try simp only [pn]
              refine tk 29 (h := ?_)
              try simp only [pn]
              refine tk 30 (h := ?_)
              try simp only [pn]
              refine tk 31 (h := ?_)
              try simp only [pn]
              refine tk 32 (h := ?_)
              try simp only [pn]
              refine tk 33 (h := ?_)
              try simp only [pn]
              refine tk 34 (h := ?_)
              try simp only [pn]
              refine tk 35 (h := ?_)
              try simp only [pn]
              refine tk 36 (h := ?_)
              try simp only [pn]
              refine tk 37 (h := ?_)
              try simp only [pn]
              refine tk 38 (h := ?_)
              try simp only [pn]
              refine tk 39 (h := ?_)
              try simp only [pn]
              refine wpAnyH_done (by kernel_rfl) ?_ _
              refine NoPanic.normal ?_
              go_wp2_with fail
              go_ret
              exact ⟨by first | rfl | (rw [← HR.out]; rfl), bthen hbA hc3⟩
    -- END
  | false =>
    obtain rfl : R = false := hR.symm
    clear hR
    go_enter Tryz.func91, Tryz.ntmps91
    go_wp2_with fail
    rw [← HWA.out]
    -- NEAR NOT
    refine wp_region_noPanic ?_
    refine wp_region_held_drew (S := (fun w' => w'.cell? ⟨w.heap.size, 2, none⟩ = some (.int .i64 lo) ∧ w'.cell? ⟨w.heap.size, 3, none⟩ = some (.int .i64 hi) ∧ w'.cell? ⟨w.heap.size, 4, none⟩ = some (.slice (some ak) nk ck) ∧ w'.cell? ⟨gx, 0, none⟩ = some (.slice An nn cn) ∧ w'.cell? ⟨gx, 1, none⟩ = some (.slice Ae ne ce) ∧ w'.cell? ⟨gx, 3, none⟩ = some (.slice (some ⟨ga, 0, none⟩) N N) ∧ w'.cell? ak = some (.int .i64 (q : Nat)) ∧ w'.cell? ⟨ga, q, none⟩ = some (.slice (some ⟨g, 0, none⟩) ne ne) ∧ w'.cell? ⟨g, j, none⟩ = some (.bool (r j)))) (by kernel_rfl) ?hS0 (fun hHeld => ?hR0)
    case hS0 => (try dsimp only); go_keep
    case hR0 =>
      refine tk 0 (h := ?_)
      try simp only [pn]
      refine tk 1 (h := ?_)
      try simp only [pn]
      refine tk 2 (h := ?_)
      try simp only [pn]
      refine tk 3 (h := ?_)
      try simp only [pn]
      refine tk 4 (h := ?_)
      try simp only [pn]
      refine tk 5 (h := ?_)
      try simp only [pn]
      refine tk 6 (h := ?_)
      try simp only [pn]
      refine tk 7 (h := ?_)
      try simp only [pn]
      refine tk 8 (h := ?_)
      try simp only [pn]
      refine tk 9 (h := ?_)
      try simp only [pn]
      refine tk 10 (h := ?_)
      try simp only [pn]
      refine tk 11 (h := ?_)
      try simp only [pn]
      refine tk 12 (h := ?_)
      try simp only [pn]
      refine tk 13 (h := ?_)
      try simp only [pn]
      refine tk 14 (h := ?_)
      try simp only [pn]
      refine tk 15 (h := ?_)
      try simp only [pn]
      refine tk 16 (h := ?_)
      try simp only [pn]
      refine tk 17 (h := ?_)
      try simp only [pn]
      refine tk 18 (h := ?_)
      try simp only [pn]
      refine tk 19 (h := ?_)
      try simp only [pn]
      refine tk 20 (h := ?_)
      try simp only [pn]
      refine wpAnyH_ready (rs := [21]) (by kernel_rfl) (by simp) ?_
      refine AllReadyH.cons (o := ?sO3) ?sA3 (fun K hK => ?sB3) ?sC3
      case sA3 => simp only [List.getElem?_toArray, List.getElem?_cons_succ, List.getElem?_cons_zero]; rfl
      case sC3 => exact AllReadyH.nil
      case sB3 =>
        go_simp
        go_at_call 121; refine (HAp.out _ (by first | exact hFA | exact hFA.drew)).mono ?_; rintro e w2 ⟨rfl, hw2⟩; have hc2 : Below wA.heap.size wA w2 := (by refine bel_trans ?_ hw2; first | exact bel_eqv (Below.refl _ wA) rfl rfl rfl rfl); have hFr := hFA.below hc2; obtain ⟨_, _, r2, r3, r4⟩ := blk5 (HBN.out.call hc2); have r5 := hFr.cell HT.out.t0; have r6 := hFr.cell HT.out.t1; have r7 := hFr.cell HX3.out; have r8 := hFr.cell HKD.out; have r9 := hFr.cell HAT.out; have r10 := hFr.cell HRC.out
        try go_wp2_with fail
        refine hK.out _ _ ?kS3 (fun hHeld => ?kR3)
        case kS3 => (try dsimp only); go_keep
        case kR3 =>
          clear hK K
          try simp only [Act.put, List.setIfInBounds_toArray, List.set_cons_zero, List.set_cons_succ]
          refine wpAnyH_ready (rs := [22]) (by kernel_rfl) (by simp) ?_
          refine AllReadyH.cons (o := ?sO4) ?sA4 (fun K hK => ?sB4) ?sC4
          case sA4 => simp only [List.getElem?_toArray, List.getElem?_cons_succ, List.getElem?_cons_zero]; rfl
          case sC4 => exact AllReadyH.nil
          case sB4 =>
            go_simp
            go_at_call 120; refine (HHs.out _).mono ?_; rintro e w3 ⟨rfl, hw3⟩; have hc3 : Below wA.heap.size wA w3 := (by refine bel_trans ?_ hw3; first | exact bel_eqv hc2 rfl rfl rfl rfl); have hFs := hFA.below hc3; obtain ⟨_, _, s2, s3, s4⟩ := blk5 (HBN.out.call hc3); have s5 := hFs.cell HT.out.t0; have s6 := hFs.cell HT.out.t1; have s7 := hFs.cell HX3.out; have s8 := hFs.cell HKD.out; have s9 := hFs.cell HAT.out; have s10 := hFs.cell HRC.out
            try go_wp2_with fail
            refine hK.out _ _ ?kS4 (fun hHeld => ?kR4)
            case kS4 => (try dsimp only); go_keep
            case kR4 =>
              clear hK K
              try simp only [Act.put, List.setIfInBounds_toArray, List.set_cons_zero, List.set_cons_succ]
              refine tk 23 (h := ?_)
              try simp only [pn]
              refine tk 24 (h := ?_)
              try simp only [pn]
              refine sk 25 (h := ?_)
              try simp only [pn]
              refine sk 26 (h := ?_)
              try simp only [pn]
              refine sk 27 (h := ?_)
              try simp only [pn]
              refine sk 28 (h := ?_)
              try simp only [pn]
              refine sk 29 (h := ?_)
              try simp only [pn]
              refine sk 30 (h := ?_)
              try simp only [pn]
              refine sk 31 (h := ?_)
              try simp only [pn]
              refine sk 32 (h := ?_)
              try simp only [pn]
              refine sk 33 (h := ?_)
              try simp only [pn]
              refine sk 34 (h := ?_)
              try simp only [pn]
              refine sk 35 (h := ?_)
              try simp only [pn]
              refine sk 36 (h := ?_)
              try simp only [pn]
              refine sk 37 (h := ?_)
              try simp only [pn]
              refine tk 38 (h := ?_)
              try simp only [pn]
              refine tk 39 (h := ?_)
              try simp only [pn]
              refine wpAnyH_done (by kernel_rfl) ?_ _
              refine NoPanic.normal ?_
              go_wp2_with fail
              go_ret
              exact ⟨by first | rfl | (rw [← HR.out]; rfl), bthen hbA hc3⟩
    -- END
end Go.Proofs.YtdbbooibkiicnaaGreat
/-! The walks of sat's temporal logic. -/
namespace Go.Proofs.YtdbbooibkiicnaaGreat
open Go.RowKit
theorem TruF.cle {F F' : Fz} {gx : Nat} {An : Option Addr} {nn cn : Nat} {Ae : Option Addr} {ne ce : Nat} {es : List Evt} (h : TruF F gx An nn cn Ae ne ce es) (hle : CLe F F') : TruF F' gx An nn cn Ae ne ce es := ⟨hle _ _ h.t0, hle _ _ h.t1, h.evs.cle hle⟩
theorem KidF.mono {F F' : Fz} {gx gb gn ga N : Nat} {ak : Addr} {nk ck k q g n : Nat} {r : Nat → Bool} (h : KidF F gx gb gn ga N ak nk ck k q g n r) (hle : CLe F F') (hb : ∀ b o, F b = some o → F' b = some o) : KidF F' gx gb gn ga N ak nk ck k q g n r :=
  ⟨hle _ _ h.b0, hle _ _ h.x3, hle _ _ h.n4, h.kk, hle _ _ h.kd, h.qN, hle _ _ h.at_, hb _ _ h.row⟩
theorem KidF.heap {F : Fz} {w : World} {gx gb gn ga N : Nat} {ak : Addr} {nk ck k q g n : Nat} {r : Nat → Bool} (h : KidF F gx gb gn ga N ak nk ck k q g n r) (hF : Sat F w) : KidF (heapF w) gx gb gn ga N ak nk ck k q g n r := h.mono hF.cle (fun b o e => hF b o e)
set_option maxRecDepth 100000 in
theorem kidv_w {w : World} (gb gn : Nat) (k : Int) : Calls Tryz.prog 87 #[.int .i64 k, .pointer (some ⟨gb, 0, none⟩), .pointer (some ⟨gn, 0, none⟩)] w fun e w' => ∃ gk, e = .returned (.func (.func 88) #[] #[.pointer (some ⟨gb, 0, none⟩), .pointer (some ⟨gn, 0, none⟩), .pointer (some ⟨gk, 0, none⟩)]) ∧ Below w.heap.size w w' ∧ Blk w' gk 3 #[.int .i64 k] := by
  have hmf : ∀ (fn : Fn) (first cap : Array Value) (w : World), (Instr.makeFunc fn first cap).run Tryz.prog w = .ok (.func fn first cap) w := fun _ _ _ _ => rfl
  go_enter Tryz.func87, Tryz.ntmps87
  go_wp2_with fail
  go_ret
  exact ⟨w.heap.size, rfl, balloc _ _, Blk.new w _ _⟩
theorem blkH {w : World} {g : Nat} {t : TypeId} {v : Value} (h : Blk w g t #[v]) : (heapF w).cell ⟨g, 0, none⟩ = some v := (h.cell 0).trans rfl
/-- What of memory the closures of a node lean on. -/
structure NodB (F : Fz) (gx gb gn gq gr : Nat) (kind : Int) (name : ByteArray) (lo hi : Int) (ak : Addr) (nk ck : Nat) : Prop where
  b0 : F.cell ⟨gb, 0, none⟩ = some (.pointer (some ⟨gx, 0, none⟩))
  n0 : F.cell ⟨gn, 0, none⟩ = some (.int .i64 kind)
  n1 : F.cell ⟨gn, 1, none⟩ = some (.string name)
  n2 : F.cell ⟨gn, 2, none⟩ = some (.int .i64 lo)
  n3 : F.cell ⟨gn, 3, none⟩ = some (.int .i64 hi)
  n4 : F.cell ⟨gn, 4, none⟩ = some (.slice (some ak) nk ck)
  q0 : F.cell ⟨gq, 0, none⟩ = some (.func (.func 87) #[] #[.pointer (some ⟨gb, 0, none⟩), .pointer (some ⟨gn, 0, none⟩)])
  r0 : F.cell ⟨gr, 0, none⟩ = some (.func (.func 89) #[] #[.pointer (some ⟨gb, 0, none⟩), .pointer (some ⟨gn, 0, none⟩)])
/-- What the node says of a point, by its kids' rows. -/
def timeU (es : List Evt) (ne : Nat) (kind lo hi : Int) (v : Nat → Bool) (i : Nat) : Bool :=
  if kind = 8 then (if 0 ≤ ((i : Int) - 1) ∧ ((i : Int) - 1) < (ne : Int) then hasD lo hi (gapE es i ((i : Int) - 1).toNat) && v ((i : Int) - 1).toNat else false)
  else if kind = 9 then (if 0 ≤ ((i : Int) + 1) ∧ ((i : Int) + 1) < (ne : Int) then hasD lo hi (gapE es i ((i : Int) + 1).toNat) && v ((i : Int) + 1).toNat else false)
  else if kind = 10 then someP (fun j => hasD lo hi (gapE es i j) && v j) allw i
  else if kind = 12 then someU (fun j => hasD lo hi (gapE es i j) && v j) allw (ne - i) i
  else if kind = 11 then !someP (fun j => hasD lo hi (gapE es i j) && !v j) allw i
  else !someU (fun j => hasD lo hi (gapE es i j) && !v j) allw (ne - i) i
set_option maxRecDepth 100000 in
set_option maxHeartbeats 4000000 in
theorem timeU_fn {F : Fz} (gx : Nat) (An : Option Addr) (nn cn : Nat) (Ae : Option Addr) (ne ce : Nat) (es : List Evt) (hT : TruF F gx An nn cn Ae ne ce es) (hn : ne ≤ 1000) (gb gn gq gr : Nat) (kind : Int) (name : ByteArray) (lo hi : Int) (ak : Addr) (nk ck : Nat) (hN : NodB F gx gb gn gq gr kind name lo hi ak nk ck) (hs : spanS lo hi = true)
    (ga N q g : Nat) (r : Nat → Bool) (hK : KidF F gx gb gn ga N ak nk ck 0 q g ne r) (hk : 8 ≤ kind ∧ kind ≤ 13) :
    IsFn F 90 #[.pointer (some ⟨gn, 0, none⟩), .pointer (some ⟨gb, 0, none⟩), .pointer (some ⟨gq, 0, none⟩), .pointer (some ⟨gr, 0, none⟩)] ne (timeU es ne kind lo hi r) := by
  refine ⟨enters_of Tryz.func90 (by kernel_rfl) rfl, fun X hX i hi' => ?_⟩
  show Calls Tryz.prog 90 #[.int .i64 (i : Nat), .pointer (some ⟨gn, 0, none⟩), .pointer (some ⟨gb, 0, none⟩), .pointer (some ⟨gq, 0, none⟩), .pointer (some ⟨gr, 0, none⟩)] X _
  have b0 := hX.cell hN.b0
  have n0 := hX.cell hN.n0
  have n1 := hX.cell hN.n1
  have n2 := hX.cell hN.n2
  have n3 := hX.cell hN.n3
  have n4 := hX.cell hN.n4
  have q0 := hX.cell hN.q0
  have r0 := hX.cell hN.r0
  have hkd := hK.kd
  rw [show ak.add 0 = ak by unfold Addr.add; simp] at hkd
  obtain ⟨R, hR⟩ : ∃ R, timeU es ne kind lo hi r i = R := ⟨_, rfl⟩
  rw [hR]
  unfold timeU at hR
  have wM : IntKind.i64.wrap ((i : Int) - 1) = (i : Int) - 1 := wrap_i (by omega) (by omega)
  have wP : IntKind.i64.wrap ((i : Int) + 1) = (i : Int) + 1 := wrap_i (by omega) (by omega)
  rcases (show kind = 8 ∨ kind = 9 ∨ kind = 10 ∨ kind = 11 ∨ kind = 12 ∨ kind = 13 by omega) with rfl | rfl | rfl | rfl | rfl | rfl
  · have HNr := Lib.hid (near_w hX gx An nn cn Ae ne ce es hT hn ga N ak nk ck q g r hK.x3 hK.kk hkd hK.qN hK.at_ hK.row 8 name lo hi hs i hi' ((i:Int)-1) R hR)
    clear hT hN hs hK hR hkd hX
    go_enter Tryz.func90, Tryz.ntmps90
    go_wp2_with (go_at_call 91; refine HNr.out.mono ?_; rintro e w3 ⟨rfl, hw3⟩)
    go_ret
    exact ⟨rfl, hw3⟩
  · have HNr := Lib.hid (near_w hX gx An nn cn Ae ne ce es hT hn ga N ak nk ck q g r hK.x3 hK.kk hkd hK.qN hK.at_ hK.row 9 name lo hi hs i hi' ((i:Int)+1) R hR)
    clear hT hN hs hK hR hkd hX
    go_enter Tryz.func90, Tryz.ntmps90
    go_wp2_with (go_at_call 91; refine HNr.out.mono ?_; rintro e w3 ⟨rfl, hw3⟩)
    go_ret
    exact ⟨rfl, hw3⟩
  · have HSm := Lib.hid (fun (Y : World) (gk : Nat) (h : Sat F Y) (hgk : Blk Y gk 3 #[.int .i64 (0 : Int)]) => someP_w (sat_heapF Y) gx An nn cn Ae ne ce es (hT.cle h.cle) hn lo hi hs i hi' 88 85 #[.pointer (some ⟨gb, 0, none⟩), .pointer (some ⟨gn, 0, none⟩), .pointer (some ⟨gk, 0, none⟩)] #[] r allw (kid_fn (hK.heap h) gk (blkH hgk)) (always_fn _ _) R hR)
    have HN := Lib.hid hN
    have HX := Lib.hid hX
    clear hT hN hs hK hR hkd
    go_enter Tryz.func90, Tryz.ntmps90
    go_wp2_with fail
    go_region_held3 (fun w' => w'.cell? ⟨gb, 0, none⟩ = some (.pointer (some ⟨gx, 0, none⟩)) ∧ w'.cell? ⟨gn, 2, none⟩ = some (.int .i64 lo) ∧ w'.cell? ⟨gn, 3, none⟩ = some (.int .i64 hi) ∧ w'.cell? ⟨gq, 0, none⟩ = some (.func (.func 87) #[] #[.pointer (some ⟨gb, 0, none⟩), .pointer (some ⟨gn, 0, none⟩)])) (go_keep)
      (first
        | (go_at_call 83; refine (HSm.out w2 gk (HX.out.below hc2) hgk).mono ?_; rintro e w3 ⟨rfl, hw3⟩; have hc3 : Below X.heap.size X w3 := (by refine bel_trans ?_ hw3; first | exact bel_eqv hc2 rfl rfl rfl rfl); have hFs := HX.out.below hc3; have s0 := hFs.cell HN.out.b0; have s1 := hFs.cell HN.out.n2; have s2 := hFs.cell HN.out.n3; have s3 := hFs.cell HN.out.q0)
        | (refine (kidv_w gb gn 0).mono ?_; rintro e w2 ⟨gk, rfl, hw2, hgk⟩; have hc2 : Below X.heap.size X w2 := (by refine bel_trans ?_ hw2; first | exact bel_eqv (Below.refl _ X) rfl rfl rfl rfl); have hFr := HX.out.below hc2; have r0 := hFr.cell HN.out.b0; have r1 := hFr.cell HN.out.n2; have r2 := hFr.cell HN.out.n3; have r3 := hFr.cell HN.out.q0))
    all_goals
      go_wp2_with fail
      go_ret
      exact ⟨rfl, hc3⟩
  · obtain ⟨T, hT2⟩ : ∃ T, someP (fun j => hasD lo hi (gapE es i j) && !r j) allw i = T := ⟨_, rfl⟩
    have hR : (!(someP (fun j => hasD lo hi (gapE es i j) && !r j) allw i)) = R := hR
    rw [hT2] at hR
    have HSm := Lib.hid (someP_w hX gx An nn cn Ae ne ce es hT hn lo hi hs i hi' 89 85 #[.pointer (some ⟨gb, 0, none⟩), .pointer (some ⟨gn, 0, none⟩)] #[] (fun j => !r j) allw (not_fn hK) (always_fn _ _) T hT2)
    have HR := Lib.hid hR
    clear hT hN hs hK hR hkd hX hT2
    go_enter Tryz.func90, Tryz.ntmps90
    go_wp2_with (go_at_call 83; refine HSm.out.mono ?_; rintro e w3 ⟨rfl, hw3⟩)
    go_ret
    exact ⟨by first | rfl | (rw [← HR.out]; rfl), hw3⟩
  · have HSm := Lib.hid (fun (Y : World) (gk : Nat) (h : Sat F Y) (hgk : Blk Y gk 3 #[.int .i64 (0 : Int)]) => someU_w (sat_heapF Y) gx An nn cn Ae ne ce es (hT.cle h.cle) hn lo hi hs i hi' 88 85 #[.pointer (some ⟨gb, 0, none⟩), .pointer (some ⟨gn, 0, none⟩), .pointer (some ⟨gk, 0, none⟩)] #[] r allw (kid_fn (hK.heap h) gk (blkH hgk)) (always_fn _ _) R hR)
    have HN := Lib.hid hN
    have HX := Lib.hid hX
    clear hT hN hs hK hR hkd
    go_enter Tryz.func90, Tryz.ntmps90
    go_wp2_with fail
    go_region_held3 (fun w' => w'.cell? ⟨gb, 0, none⟩ = some (.pointer (some ⟨gx, 0, none⟩)) ∧ w'.cell? ⟨gn, 2, none⟩ = some (.int .i64 lo) ∧ w'.cell? ⟨gn, 3, none⟩ = some (.int .i64 hi) ∧ w'.cell? ⟨gq, 0, none⟩ = some (.func (.func 87) #[] #[.pointer (some ⟨gb, 0, none⟩), .pointer (some ⟨gn, 0, none⟩)])) (go_keep)
      (first
        | (go_at_call 83; refine (HSm.out w2 gk (HX.out.below hc2) hgk).mono ?_; rintro e w3 ⟨rfl, hw3⟩; have hc3 : Below X.heap.size X w3 := (by refine bel_trans ?_ hw3; first | exact bel_eqv hc2 rfl rfl rfl rfl); have hFs := HX.out.below hc3; have s0 := hFs.cell HN.out.b0; have s1 := hFs.cell HN.out.n2; have s2 := hFs.cell HN.out.n3; have s3 := hFs.cell HN.out.q0)
        | (refine (kidv_w gb gn 0).mono ?_; rintro e w2 ⟨gk, rfl, hw2, hgk⟩; have hc2 : Below X.heap.size X w2 := (by refine bel_trans ?_ hw2; first | exact bel_eqv (Below.refl _ X) rfl rfl rfl rfl); have hFr := HX.out.below hc2; have r0 := hFr.cell HN.out.b0; have r1 := hFr.cell HN.out.n2; have r2 := hFr.cell HN.out.n3; have r3 := hFr.cell HN.out.q0))
    all_goals
      go_wp2_with fail
      go_ret
      exact ⟨rfl, hc3⟩
  · obtain ⟨T, hT2⟩ : ∃ T, someU (fun j => hasD lo hi (gapE es i j) && !r j) allw (ne - i) i = T := ⟨_, rfl⟩
    have hR : (!(someU (fun j => hasD lo hi (gapE es i j) && !r j) allw (ne - i) i)) = R := hR
    rw [hT2] at hR
    have HSm := Lib.hid (someU_w hX gx An nn cn Ae ne ce es hT hn lo hi hs i hi' 89 85 #[.pointer (some ⟨gb, 0, none⟩), .pointer (some ⟨gn, 0, none⟩)] #[] (fun j => !r j) allw (not_fn hK) (always_fn _ _) T hT2)
    have HR := Lib.hid hR
    clear hT hN hs hK hR hkd hX hT2
    go_enter Tryz.func90, Tryz.ntmps90
    go_wp2_with (go_at_call 83; refine HSm.out.mono ?_; rintro e w3 ⟨rfl, hw3⟩)
    go_ret
    exact ⟨by first | rfl | (rw [← HR.out]; rfl), hw3⟩
def timeB (es : List Evt) (ne : Nat) (kind lo hi : Int) (v w : Nat → Bool) (i : Nat) : Bool :=
  if kind = 14 then someP (fun j => hasD lo hi (gapE es i j) && w j) v i else someU (fun j => hasD lo hi (gapE es i j) && w j) v (ne - i) i
set_option maxRecDepth 100000 in
set_option maxHeartbeats 4000000 in
theorem timeB_fn {F : Fz} (gx : Nat) (An : Option Addr) (nn cn : Nat) (Ae : Option Addr) (ne ce : Nat) (es : List Evt) (hT : TruF F gx An nn cn Ae ne ce es) (hn : ne ≤ 1000) (gb gn gq gr : Nat) (kind : Int) (name : ByteArray) (lo hi : Int) (ak : Addr) (nk ck : Nat) (hN : NodB F gx gb gn gq gr kind name lo hi ak nk ck) (hs : spanS lo hi = true)
    (ga N q0 g0 q1 g1 : Nat) (r0 r1 : Nat → Bool) (hK0 : KidF F gx gb gn ga N ak nk ck 0 q0 g0 ne r0) (hK1 : KidF F gx gb gn ga N ak nk ck 1 q1 g1 ne r1) (hk : kind = 14 ∨ kind = 15) :
    IsFn F 90 #[.pointer (some ⟨gn, 0, none⟩), .pointer (some ⟨gb, 0, none⟩), .pointer (some ⟨gq, 0, none⟩), .pointer (some ⟨gr, 0, none⟩)] ne (timeB es ne kind lo hi r0 r1) := by
  refine ⟨enters_of Tryz.func90 (by kernel_rfl) rfl, fun X hX i hi' => ?_⟩
  show Calls Tryz.prog 90 #[.int .i64 (i : Nat), .pointer (some ⟨gn, 0, none⟩), .pointer (some ⟨gb, 0, none⟩), .pointer (some ⟨gq, 0, none⟩), .pointer (some ⟨gr, 0, none⟩)] X _
  have b0 := hX.cell hN.b0
  have n0 := hX.cell hN.n0
  have n1 := hX.cell hN.n1
  have n2 := hX.cell hN.n2
  have n3 := hX.cell hN.n3
  have n4 := hX.cell hN.n4
  have q0_ := hX.cell hN.q0
  have r0_ := hX.cell hN.r0
  obtain ⟨R, hR⟩ : ∃ R, timeB es ne kind lo hi r0 r1 i = R := ⟨_, rfl⟩
  rw [hR]
  unfold timeB at hR
  rcases hk with rfl | rfl
  · have HSm := Lib.hid (fun (Y : World) (gk1 gk0 : Nat) (h : Sat F Y) (h1 : Blk Y gk1 3 #[.int .i64 (1 : Int)]) (h0 : Blk Y gk0 3 #[.int .i64 (0 : Int)]) => someP_w (sat_heapF Y) gx An nn cn Ae ne ce es (hT.cle h.cle) hn lo hi hs i hi' 88 88 #[.pointer (some ⟨gb, 0, none⟩), .pointer (some ⟨gn, 0, none⟩), .pointer (some ⟨gk1, 0, none⟩)] #[.pointer (some ⟨gb, 0, none⟩), .pointer (some ⟨gn, 0, none⟩), .pointer (some ⟨gk0, 0, none⟩)] r1 r0 (kid_fn (hK1.heap h) gk1 (blkH h1)) (kid_fn (hK0.heap h) gk0 (blkH h0)) R hR)
    have HN := Lib.hid hN
    have HX := Lib.hid hX
    clear hT hN hs hK0 hK1 hR
    go_enter Tryz.func90, Tryz.ntmps90
    go_wp2_with fail
    -- REGION
    refine wp_region_noPanic ?_
    refine wp_region_held_drew (S := (fun w' => w'.cell? ⟨gb, 0, none⟩ = some (.pointer (some ⟨gx, 0, none⟩)) ∧ w'.cell? ⟨gn, 2, none⟩ = some (.int .i64 lo) ∧ w'.cell? ⟨gn, 3, none⟩ = some (.int .i64 hi) ∧ w'.cell? ⟨gq, 0, none⟩ = some (.func (.func 87) #[] #[.pointer (some ⟨gb, 0, none⟩), .pointer (some ⟨gn, 0, none⟩)]))) (by kernel_rfl) ?hS0 (fun hHeld => ?hR0)
    case hS0 => (try dsimp only); go_keep
    case hR0 =>
      refine tk 0 (h := ?_)
      try simp only [pn]
      refine tk 1 (h := ?_)
      try simp only [pn]
      refine tk 2 (h := ?_)
      try simp only [pn]
      refine tk 3 (h := ?_)
      try simp only [pn]
      refine tk 4 (h := ?_)
      try simp only [pn]
      refine tk 6 (h := ?_)
      try simp only [pn]
      refine wpAnyH_ready (rs := [5]) (by kernel_rfl) (by simp) ?_
      refine AllReadyH.cons (o := ?sO1) ?sA1 (fun K hK => ?sB1) ?sC1
      case sA1 => simp only [List.getElem?_toArray, List.getElem?_cons_succ, List.getElem?_cons_zero]; rfl
      case sB1 =>
        go_simp
        refine (kidv_w gb gn 1).mono ?_; rintro e w2 ⟨gk1, rfl, hw2, hgk1⟩; have hc2 : Below X.heap.size X w2 := (by refine bel_trans ?_ hw2; first | exact bel_eqv (Below.refl _ X) rfl rfl rfl rfl); have hFr := HX.out.below hc2; have r0 := hFr.cell HN.out.b0; have r1 := hFr.cell HN.out.n2; have r2 := hFr.cell HN.out.n3; have r3 := hFr.cell HN.out.q0
        try go_wp2_with fail
        refine hK.out _ _ ?kS1 (fun hHeld => ?kR1)
        case kS1 => (try dsimp only); go_keep
        case kR1 =>
          clear hK K
          try simp only [Act.put, List.setIfInBounds_toArray, List.set_cons_zero, List.set_cons_succ]
          refine wpAnyH_ready (rs := [7]) (by kernel_rfl) (by simp) ?_
          refine AllReadyH.cons (o := ?sO2) ?sA2 (fun K hK => ?sB2) ?sC2
          case sA2 => simp only [List.getElem?_toArray, List.getElem?_cons_succ, List.getElem?_cons_zero]; rfl
          case sB2 =>
            go_simp
            refine (kidv_w gb gn 0).mono ?_; rintro e w3 ⟨gk0, rfl, hw3, hgk0⟩; have hc3 : Below X.heap.size X w3 := (by refine bel_trans ?_ hw3; first | exact bel_eqv hc2 rfl rfl rfl rfl); have hgk1' := hgk1.call hw3; clear hgk1; have hgk1 := hgk1'; clear hgk1'; have hFs := HX.out.below hc3; have s0 := hFs.cell HN.out.b0; have s1 := hFs.cell HN.out.n2; have s2 := hFs.cell HN.out.n3; have s3 := hFs.cell HN.out.q0
            try go_wp2_with fail
            refine hK.out _ _ ?kS2 (fun hHeld => ?kR2)
            case kS2 => (try dsimp only); go_keep
            case kR2 =>
              clear hK K
              try simp only [Act.put, List.setIfInBounds_toArray, List.set_cons_zero, List.set_cons_succ]
              refine wpAnyH_ready (rs := [8]) (by kernel_rfl) (by simp) ?_
              refine AllReadyH.cons (o := ?sO3) ?sA3 (fun K hK => ?sB3) ?sC3
              case sA3 => simp only [List.getElem?_toArray, List.getElem?_cons_succ, List.getElem?_cons_zero]; rfl
              case sB3 =>
                go_simp
                refine (HSm.out w3 gk1 gk0 (HX.out.below hc3) hgk1 hgk0).mono ?_; rintro e w4 ⟨rfl, hw4⟩; have hc4 : Below X.heap.size X w4 := (by refine bel_trans ?_ hw4; first | exact bel_eqv hc3 rfl rfl rfl rfl); have hFt := HX.out.below hc4; have t0 := hFt.cell HN.out.b0; have t1 := hFt.cell HN.out.n2; have t2 := hFt.cell HN.out.n3; have t3 := hFt.cell HN.out.q0
                try go_wp2_with fail
                refine hK.out _ _ ?kS3 (fun hHeld => ?kR3)
                case kS3 => (try dsimp only); go_keep
                case kR3 =>
                  clear hK K
                  try simp only [Act.put, List.setIfInBounds_toArray, List.set_cons_zero, List.set_cons_succ]
                  refine tk 9 (h := ?_)
                  try simp only [pn]
                  refine wpAnyH_done (by kernel_rfl) ?_ _
                  refine NoPanic.normal ?_
                  go_wp2_with fail
                  go_ret
                  exact ⟨rfl, hc4⟩
              case sC3 =>
                exact AllReadyH.nil
          case sC2 =>
            exact AllReadyH.nil
      case sC1 =>
        exact AllReadyH.nil
    -- END
  · have HSm := Lib.hid (fun (Y : World) (gk1 gk0 : Nat) (h : Sat F Y) (h1 : Blk Y gk1 3 #[.int .i64 (1 : Int)]) (h0 : Blk Y gk0 3 #[.int .i64 (0 : Int)]) => someU_w (sat_heapF Y) gx An nn cn Ae ne ce es (hT.cle h.cle) hn lo hi hs i hi' 88 88 #[.pointer (some ⟨gb, 0, none⟩), .pointer (some ⟨gn, 0, none⟩), .pointer (some ⟨gk1, 0, none⟩)] #[.pointer (some ⟨gb, 0, none⟩), .pointer (some ⟨gn, 0, none⟩), .pointer (some ⟨gk0, 0, none⟩)] r1 r0 (kid_fn (hK1.heap h) gk1 (blkH h1)) (kid_fn (hK0.heap h) gk0 (blkH h0)) R hR)
    have HN := Lib.hid hN
    have HX := Lib.hid hX
    clear hT hN hs hK0 hK1 hR
    go_enter Tryz.func90, Tryz.ntmps90
    go_wp2_with fail
    -- REGION
    refine wp_region_noPanic ?_
    refine wp_region_held_drew (S := (fun w' => w'.cell? ⟨gb, 0, none⟩ = some (.pointer (some ⟨gx, 0, none⟩)) ∧ w'.cell? ⟨gn, 2, none⟩ = some (.int .i64 lo) ∧ w'.cell? ⟨gn, 3, none⟩ = some (.int .i64 hi) ∧ w'.cell? ⟨gq, 0, none⟩ = some (.func (.func 87) #[] #[.pointer (some ⟨gb, 0, none⟩), .pointer (some ⟨gn, 0, none⟩)]))) (by kernel_rfl) ?hS0 (fun hHeld => ?hR0)
    case hS0 => (try dsimp only); go_keep
    case hR0 =>
      refine tk 0 (h := ?_)
      try simp only [pn]
      refine tk 1 (h := ?_)
      try simp only [pn]
      refine tk 2 (h := ?_)
      try simp only [pn]
      refine tk 3 (h := ?_)
      try simp only [pn]
      refine tk 4 (h := ?_)
      try simp only [pn]
      refine tk 6 (h := ?_)
      try simp only [pn]
      refine wpAnyH_ready (rs := [5]) (by kernel_rfl) (by simp) ?_
      refine AllReadyH.cons (o := ?sO4) ?sA4 (fun K hK => ?sB4) ?sC4
      case sA4 => simp only [List.getElem?_toArray, List.getElem?_cons_succ, List.getElem?_cons_zero]; rfl
      case sB4 =>
        go_simp
        refine (kidv_w gb gn 1).mono ?_; rintro e w2 ⟨gk1, rfl, hw2, hgk1⟩; have hc2 : Below X.heap.size X w2 := (by refine bel_trans ?_ hw2; first | exact bel_eqv (Below.refl _ X) rfl rfl rfl rfl); have hFr := HX.out.below hc2; have r0 := hFr.cell HN.out.b0; have r1 := hFr.cell HN.out.n2; have r2 := hFr.cell HN.out.n3; have r3 := hFr.cell HN.out.q0
        try go_wp2_with fail
        refine hK.out _ _ ?kS4 (fun hHeld => ?kR4)
        case kS4 => (try dsimp only); go_keep
        case kR4 =>
          clear hK K
          try simp only [Act.put, List.setIfInBounds_toArray, List.set_cons_zero, List.set_cons_succ]
          refine wpAnyH_ready (rs := [7]) (by kernel_rfl) (by simp) ?_
          refine AllReadyH.cons (o := ?sO5) ?sA5 (fun K hK => ?sB5) ?sC5
          case sA5 => simp only [List.getElem?_toArray, List.getElem?_cons_succ, List.getElem?_cons_zero]; rfl
          case sB5 =>
            go_simp
            refine (kidv_w gb gn 0).mono ?_; rintro e w3 ⟨gk0, rfl, hw3, hgk0⟩; have hc3 : Below X.heap.size X w3 := (by refine bel_trans ?_ hw3; first | exact bel_eqv hc2 rfl rfl rfl rfl); have hgk1' := hgk1.call hw3; clear hgk1; have hgk1 := hgk1'; clear hgk1'; have hFs := HX.out.below hc3; have s0 := hFs.cell HN.out.b0; have s1 := hFs.cell HN.out.n2; have s2 := hFs.cell HN.out.n3; have s3 := hFs.cell HN.out.q0
            try go_wp2_with fail
            refine hK.out _ _ ?kS5 (fun hHeld => ?kR5)
            case kS5 => (try dsimp only); go_keep
            case kR5 =>
              clear hK K
              try simp only [Act.put, List.setIfInBounds_toArray, List.set_cons_zero, List.set_cons_succ]
              refine wpAnyH_ready (rs := [8]) (by kernel_rfl) (by simp) ?_
              refine AllReadyH.cons (o := ?sO6) ?sA6 (fun K hK => ?sB6) ?sC6
              case sA6 => simp only [List.getElem?_toArray, List.getElem?_cons_succ, List.getElem?_cons_zero]; rfl
              case sB6 =>
                go_simp
                refine (HSm.out w3 gk1 gk0 (HX.out.below hc3) hgk1 hgk0).mono ?_; rintro e w4 ⟨rfl, hw4⟩; have hc4 : Below X.heap.size X w4 := (by refine bel_trans ?_ hw4; first | exact bel_eqv hc3 rfl rfl rfl rfl); have hFt := HX.out.below hc4; have t0 := hFt.cell HN.out.b0; have t1 := hFt.cell HN.out.n2; have t2 := hFt.cell HN.out.n3; have t3 := hFt.cell HN.out.q0
                try go_wp2_with fail
                refine hK.out _ _ ?kS6 (fun hHeld => ?kR6)
                case kS6 => (try dsimp only); go_keep
                case kR6 =>
                  clear hK K
                  try simp only [Act.put, List.setIfInBounds_toArray, List.set_cons_zero, List.set_cons_succ]
                  refine tk 9 (h := ?_)
                  try simp only [pn]
                  refine wpAnyH_done (by kernel_rfl) ?_ _
                  refine NoPanic.normal ?_
                  go_wp2_with fail
                  go_ret
                  exact ⟨rfl, hc4⟩
              case sC6 =>
                exact AllReadyH.nil
          case sC5 =>
            exact AllReadyH.nil
      case sC4 =>
        exact AllReadyH.nil
    -- END
end Go.Proofs.YtdbbooibkiicnaaGreat
