/- Truth over a whole trace: plain definitions and lemmas, no program in sight. -/
import Derived.Test.YtdbbooibkiicnaaGreatHand
import Derived.Test.YtdbbooibkiicnaaGreatBoundA
import Derived.Test.YtdbbooibkiicnaaGreatOwn
import Derived.Test.YtdbbooibkiicnaaGreatSq
import Derived.Deep.QuietTactic
import Derived.BigQuiet
import Derived.Deep.RegionHeld3
set_option linter.unusedVariables false
set_option linter.unusedSimpArgs false
/-! Truth over a whole trace: plain definitions and lemmas, no program in sight. -/
namespace Go.Proofs.YtdbbooibkiicnaaGreat
/-- A trace: how many points, their times, what holds there. -/
structure TrcS where
  n : Nat
  time : Nat → Nat
  holds : Nat → ByteArray → Bool
def hasD (lo hi : Int) (d : Nat) : Bool := decide (lo ≤ (d : Int) ∧ (hi = -1 ∨ (d : Int) ≤ hi))
def gapS (X : TrcS) (i j : Nat) : Nat := max (X.time i) (X.time j) - min (X.time i) (X.time j)
/-- Some point up to i is so, and all behind it go on. -/
def someP (is on : Nat → Bool) : Nat → Bool
  | 0 => is 0
  | i + 1 => is (i + 1) || (on (i + 1) && someP is on i)
/-- Some of m points from i on is so, and all ahead of it go on. -/
def someU (is on : Nat → Bool) : Nat → Nat → Bool
  | 0, _ => false
  | m + 1, i => is i || (on i && someU is on m (i + 1))
def allw : Nat → Bool := fun _ => true
def unS (X : TrcS) (h : Nd) (v : Nat → Bool) (ways : Mx) (i : Nat) : Bool :=
  if h.kind = 4 then !v i
  else if h.kind = 8 then decide (0 < i) && (hasD h.lo h.hi (gapS X i (i - 1)) && v (i - 1))
  else if h.kind = 9 then decide (i + 1 < X.n) && (hasD h.lo h.hi (gapS X i (i + 1)) && v (i + 1))
  else if h.kind = 10 then someP (fun j => hasD h.lo h.hi (gapS X i j) && v j) allw i
  else if h.kind = 11 then !someP (fun j => hasD h.lo h.hi (gapS X i j) && !v j) allw i
  else if h.kind = 12 then someU (fun j => hasD h.lo h.hi (gapS X i j) && v j) allw (X.n - i) i
  else if h.kind = 13 then !someU (fun j => hasD h.lo h.hi (gapS X i j) && !v j) allw (X.n - i) i
  else if h.kind = 16 then someP (fun j => hasD h.lo h.hi (gapS X i j) && ways j i) allw i
  else if h.kind = 17 then someU (fun j => hasD h.lo h.hi (gapS X i j) && ways i j) allw (X.n - i) i
  else false
def binS (X : TrcS) (h : Nd) (v w : Nat → Bool) (i : Nat) : Bool :=
  if h.kind = 5 then v i && w i
  else if h.kind = 6 then v i || w i
  else if h.kind = 7 then !v i || w i
  else if h.kind = 14 then someP (fun j => hasD h.lo h.hi (gapS X i j) && w j) v i
  else if h.kind = 15 then someU (fun j => hasD h.lo h.hi (gapS X i j) && w j) v (X.n - i) i
  else false
def leafS (X : TrcS) (h : Nd) (i : Nat) : Bool := if h.kind = 1 then true else if h.kind = 3 then X.holds i h.name else false
/-- What tests, told one by one, hold at a point. -/
def valL (vs : List (Nat → Bool)) (i q : Nat) : Bool := (vs.getD q fun _ => false) i
/-- Of a formula where it holds; of a regular expression where its tests hold. -/
def satB (X : TrcS) : Tr → (Nat → Bool) × List (Nat → Bool)
  | .leaf h => (leafS X h, [])
  | .un h a => (unS X h (satB X a).1 (reachT X.n (valL (satB X a).2) a 0), if h.kind = 19 then [(satB X a).1] else (satB X a).2)
  | .bin h a b => (binS X h (satB X a).1 (satB X b).1, (satB X a).2 ++ (satB X b).2)
def satT (X : TrcS) (t : Tr) : Nat → Bool := (satB X t).1
def valsT (X : TrcS) (t : Tr) : List (Nat → Bool) := (satB X t).2
theorem sat_leaf (X : TrcS) (h : Nd) (i : Nat) : satT X (.leaf h) i = leafS X h i := rfl
theorem sat_un (X : TrcS) (h : Nd) (a : Tr) (i : Nat) : satT X (.un h a) i = unS X h (satT X a) (reachT X.n (valL (valsT X a)) a 0) i := rfl
theorem sat_bin (X : TrcS) (h : Nd) (a b : Tr) (i : Nat) : satT X (.bin h a b) i = binS X h (satT X a) (satT X b) i := rfl
theorem vals_un (X : TrcS) (h : Nd) (a : Tr) : valsT X (.un h a) = if h.kind = 19 then [satT X a] else valsT X a := rfl
theorem vals_bin (X : TrcS) (h : Nd) (a b : Tr) : valsT X (.bin h a b) = valsT X a ++ valsT X b := rfl
theorem length_vals (X : TrcS) : ∀ t : Tr, (valsT X t).length = testsT t
  | .leaf _ => rfl
  | .un h a => by
    rw [vals_un]
    unfold testsT
    split
    · rfl
    · exact length_vals X a
  | .bin h a b => by
    rw [vals_bin, List.length_append, length_vals X a, length_vals X b]
    rfl
/-- The tests' truth is that of the formulas below the tests. -/
theorem vals_get (X : TrcS) : ∀ (t : Tr) (q : Nat), (valsT X t)[q]? = ((testTr t)[q]?).map fun x => match x with | .un _ f => satT X f | _ => fun _ => false
  | .leaf _, q => by simp [valsT, satB, testTr]
  | .un h a, q => by
    rw [vals_un]
    unfold testTr
    split
    · rename_i h19
      cases q <;> simp
    · exact vals_get X a q
  | .bin h a b, q => by
    rw [vals_bin]
    unfold testTr
    have hl : (valsT X a).length = (testTr a).length := by rw [length_vals, length_testTr]
    by_cases hq : q < (valsT X a).length
    · rw [List.getElem?_append_left hq, List.getElem?_append_left (by rw [← hl]; exact hq)]
      exact vals_get X a q
    · rw [List.getElem?_append_right (by omega), List.getElem?_append_right (by omega), hl]
      exact vals_get X b _
theorem someP_iff {is on : Nat → Bool} : ∀ {i : Nat}, someP is on i = true ↔ ∃ j, j ≤ i ∧ is j = true ∧ ∀ k, j < k → k ≤ i → on k = true
  | 0 => by
    unfold someP
    constructor
    · intro h; exact ⟨0, Nat.le_refl _, h, fun k h1 h2 => by omega⟩
    · rintro ⟨j, h1, h2, _⟩
      obtain rfl : j = 0 := by omega
      exact h2
  | i + 1 => by
    unfold someP
    rw [Bool.or_eq_true, Bool.and_eq_true, someP_iff]
    constructor
    · rintro (h | ⟨h1, j, h2, h3, h4⟩)
      · exact ⟨i + 1, Nat.le_refl _, h, fun k h1 h2 => by omega⟩
      · refine ⟨j, by omega, h3, fun k h5 h6 => ?_⟩
        by_cases e : k = i + 1
        · rw [e]; exact h1
        · exact h4 k h5 (by omega)
    · rintro ⟨j, h1, h2, h3⟩
      by_cases e : j = i + 1
      · left; rw [← e]; exact h2
      · right
        exact ⟨h3 _ (by omega) (Nat.le_refl _), j, by omega, h2, fun k h5 h6 => h3 k h5 (by omega)⟩
theorem someU_iff {is on : Nat → Bool} : ∀ {m i : Nat}, someU is on m i = true ↔ ∃ j, i ≤ j ∧ j < i + m ∧ is j = true ∧ ∀ k, i ≤ k → k < j → on k = true
  | 0, i => by
    unfold someU
    constructor
    · intro h; cases h
    · rintro ⟨j, h1, h2, _⟩; omega
  | m + 1, i => by
    unfold someU
    rw [Bool.or_eq_true, Bool.and_eq_true, someU_iff]
    constructor
    · rintro (h | ⟨h1, j, h2, h3, h4, h5⟩)
      · exact ⟨i, Nat.le_refl _, by omega, h, fun k h1 h2 => by omega⟩
      · refine ⟨j, by omega, by omega, h4, fun k h6 h7 => ?_⟩
        by_cases e : k = i
        · rw [e]; exact h1
        · exact h5 k (by omega) h7
    · rintro ⟨j, h1, h2, h3, h4⟩
      by_cases e : j = i
      · left; rw [← e]; exact h3
      · right
        exact ⟨h4 _ (Nat.le_refl _) (by omega), j, by omega, by omega, h3, fun k h5 h6 => h4 k (by omega) h6⟩
/-! ### Truth hangs on what is seen alone -/
end Go.Proofs.YtdbbooibkiicnaaGreat
/-! Traces in memory, and the walks of sat's small functions. -/
namespace Go.Proofs.YtdbbooibkiicnaaGreat
open Go.RowKit
/-- An event: its time, and the ids that hold. -/
structure Evt where
  time : Nat
  ids : List Int
/-- The slice at A of n events reads as es. -/
def EvsF (F : Fz) (A : Option Addr) (n : Nat) (es : List Evt) : Prop := es.length = n ∧ (0 < n → ∃ ad, A = some ad ∧ ∀ i (h : i < es.length), es[i].time < 18446744073709551616 ∧ ∃ Ai ci, es[i].ids.length ≤ ci ∧ Rd F 1 Ai es[i].ids.length (es[i].ids.map (Value.int .i64)) ∧ F.cell (ad.add (i * 2)) = some (.int .u64 (es[i].time : Nat)) ∧ F.cell ((ad.add (i * 2)).add 1) = some (.slice Ai es[i].ids.length ci))
theorem EvsF.cle {F F' : Fz} {A : Option Addr} {n : Nat} {es : List Evt} (h : EvsF F A n es) (hle : CLe F F') : EvsF F' A n es :=
  ⟨h.1, fun h0 => let ⟨ad, e, hh⟩ := h.2 h0; ⟨ad, e, fun i hi => let ⟨ht, Ai, ci, h1, h2, h3, h4⟩ := hh i hi; ⟨ht, Ai, ci, h1, h2.cle hle, hle _ _ h3, hle _ _ h4⟩⟩⟩
def timeE (es : List Evt) (i : Nat) : Nat := match es[i]? with | some e => e.time | none => 0
theorem EvsF.at_ {F : Fz} {A : Option Addr} {n : Nat} {es : List Evt} (h : EvsF F A n es) {i : Nat} (hi : i < n) : timeE es i < 18446744073709551616 ∧ ∃ ad, A = some ad ∧ F.cell (ad.add (i * 2)) = some (.int .u64 (timeE es i : Nat)) := by
  obtain ⟨ad, e, hh⟩ := h.2 (by omega)
  have hl : i < es.length := by have := h.1; omega
  obtain ⟨ht, Ai, ci, _, _, h3, _⟩ := hh i hl
  have e1 : timeE es i = es[i].time := by unfold timeE; rw [List.getElem?_eq_getElem hl]
  rw [e1]
  exact ⟨ht, ad, e, h3⟩
def gapE (es : List Evt) (i j : Nat) : Nat := max (timeE es i) (timeE es j) - min (timeE es i) (timeE es j)
theorem wrap_u64 {n : Int} (h1 : 0 ≤ n) (h2 : n < 18446744073709551616) : IntKind.u64.wrap n = n := by
  simp [IntKind.wrap, IntKind.bits, IntKind.signed]
  omega
theorem gap_cases {ti tj G : Nat} (h : max ti tj - min ti tj = G) : (ti ≤ tj ∧ tj - ti = G) ∨ (tj ≤ ti ∧ ti - tj = G) := by omega
set_option maxRecDepth 100000 in
theorem apart_w {F : Fz} {w : World} (hF : Sat F w) (es : List Evt) (An : Option Addr) (nn cn : Nat) (Ae : Option Addr) (ne ce : Nat) (hE : EvsF F Ae ne es) (i j : Nat) (hi : i < ne) (hj : j < ne) :
    Calls Tryz.prog 121 #[.agg #[.slice An nn cn, .slice Ae ne ce], .int .i64 i, .int .i64 j] w fun e w' => e = .returned (.int .u64 (gapE es i j : Nat)) ∧ Below w.heap.size w w' := by
  obtain ⟨hti, ad, rfl, hci⟩ := hE.at_ hi
  obtain ⟨htj, ad', e', hcj⟩ := hE.at_ hj
  injection e' with e'
  subst e'
  have hiI : (i : Int) < (ne : Int) := by omega
  have hjI : (j : Int) < (ne : Int) := by omega
  obtain ⟨G, hG⟩ : ∃ G, gapE es i j = G := ⟨_, rfl⟩
  rw [hG]
  unfold gapE at hG
  generalize timeE es i = ti at *
  generalize timeE es j = tj at *
  have hbA := balloc w (.cells #[.slice An nn cn, .slice (some ad) ne ce] 43)
  obtain ⟨k0, k1, _, _⟩ := blkA (Blk.new w 43 #[.slice An nn cn, .slice (some ad) ne ce])
  have hFA := hF.below hbA
  have c0 := hFA.cell hci
  have c1 := hFA.cell hcj
  have HG := Lib.hid hG
  have wS : ∀ a b : Nat, a < 18446744073709551616 → b ≤ a → IntKind.u64.wrap ((a : Int) - (b : Int)) = ((a - b : Nat) : Int) := fun a b h1 h2 => by rw [show (a : Int) - (b : Int) = ((a - b : Nat) : Int) by omega]; exact wrap_u64 (by omega) (by omega)
  rcases gap_cases hG with ⟨h1, h2⟩ | ⟨h1, h2⟩
  · have w1 := wS tj ti htj h1
    have hle : (ti : Int) ≤ (tj : Int) := by omega
    clear hE hG wS hci hcj
    go_enter Tryz.func121, Tryz.ntmps121
    go_wp2_with fail
    go_quiet (fail)
    go_wp2_with fail
    go_ret
    exact ⟨by first | (rw [← h2]; simp; omega) | simp, below_drewN hbA _⟩
  · have w1 := wS ti tj hti h1
    have hle : (tj : Int) ≤ (ti : Int) := by omega
    clear hE hG wS hci hcj
    go_enter Tryz.func121, Tryz.ntmps121
    go_wp2_with fail
    go_quiet (fail)
    go_wp2_with fail
    go_ret
    exact ⟨by first | (rw [← h2]; simp; omega) | simp, below_drewN hbA _⟩
set_option maxRecDepth 100000 in
theorem ihas_w (lo hi : Int) (hs : spanS lo hi = true) (d : Nat) (hd : d < 18446744073709551616) (w : World) : Calls Tryz.prog 120 #[.agg #[.int .i64 lo, .int .i64 hi], .int .u64 d] w fun e w' => e = .returned (.bool (hasD lo hi d)) ∧ Below w.heap.size w w' := by
  have hb := hs
  unfold spanS at hb
  rw [decide_eq_true_iff] at hb
  obtain ⟨h1, h2, h3⟩ := hb
  have HM := Lib.hid (fun X => hs ▸ ivalMay_w lo hi X)
  have HB := Lib.hid (Blk.new w 60 #[.int .i64 lo, .int .i64 hi])
  obtain ⟨k0, k1, _, _⟩ := blkA HB.out
  have wL : IntKind.u64.wrap lo = lo := wrap_u64 h1 (by omega)
  obtain ⟨R, hR⟩ : ∃ R, hasD lo hi d = R := ⟨_, rfl⟩
  rw [hR]
  have HR := Lib.hid hR
  clear hR hs
  by_cases g1 : lo ≤ (d : Int)
  · by_cases g2 : hi = -1
    · subst g2
      have e : R = true := by rw [← HR.out]; unfold hasD; exact decide_eq_true ⟨g1, .inl rfl⟩
      subst e
      clear h3 HR
      go_enter Tryz.func120, Tryz.ntmps120
      go_wp2_with (go_at_call 103; refine (HM.out _).mono ?_; rintro e w1 ⟨rfl, hw1⟩; obtain ⟨q0, q1, _, _⟩ := blkA (HB.out.call hw1))
      go_ret
      exact ⟨by first | rfl | simp, bthen (balloc _ _) hw1⟩
    · have hne : (hi == -1) = false := by rw [beq_eq_false_iff_ne]; exact g2
      have wH : IntKind.u64.wrap hi = hi := wrap_u64 (by omega) (by omega)
      by_cases g3 : (d : Int) ≤ hi
      · have e : R = true := by rw [← HR.out]; unfold hasD; exact decide_eq_true ⟨g1, .inr g3⟩
        subst e
        clear h3 HR g2
        go_enter Tryz.func120, Tryz.ntmps120
        go_wp2_with (go_at_call 103; refine (HM.out _).mono ?_; rintro e w1 ⟨rfl, hw1⟩; obtain ⟨q0, q1, _, _⟩ := blkA (HB.out.call hw1))
        go_ret
        exact ⟨by first | rfl | simp, bthen (balloc _ _) hw1⟩
      · have e : R = false := by rw [← HR.out]; unfold hasD; exact decide_eq_false (fun h => h.2.elim g2 g3)
        subst e
        have g3d : decide ((d : Int) ≤ hi) = false := decide_eq_false g3
        clear h3 HR g2 g3
        go_enter Tryz.func120, Tryz.ntmps120
        go_wp2_with (go_at_call 103; refine (HM.out _).mono ?_; rintro e w1 ⟨rfl, hw1⟩; obtain ⟨q0, q1, _, _⟩ := blkA (HB.out.call hw1))
        go_ret
        exact ⟨by first | rfl | simp, bthen (balloc _ _) hw1⟩
  · have e : R = false := by rw [← HR.out]; unfold hasD; exact decide_eq_false (fun h => g1 h.1)
    subst e
    have g1d : decide (lo ≤ (d : Int)) = false := decide_eq_false g1
    clear h3 HR g1
    go_enter Tryz.func120, Tryz.ntmps120
    go_wp2_with (go_at_call 103; refine (HM.out _).mono ?_; rintro e w1 ⟨rfl, hw1⟩; obtain ⟨q0, q1, _, _⟩ := blkA (HB.out.call hw1))
    go_ret
    exact ⟨by first | rfl | simp, bthen (balloc _ _) hw1⟩
/-- A function value that tells b i of each point i. -/
def IsFn (F : Fz) (k : Nat) (cap : Array Value) (n : Nat) (b : Nat → Bool) : Prop := (∀ args w, (callFunc k args).run Tryz.prog w = .ok (.enter k args) w) ∧ ∀ X : World, Sat F X → ∀ i : Nat, i < n → Calls Tryz.prog k (#[.int .i64 (i : Nat)] ++ cap) X fun e X' => e = .returned (.bool (b i)) ∧ Below X.heap.size X X'
theorem IsFn.cle {F F' : Fz} {k : Nat} {cap : Array Value} {n : Nat} {b : Nat → Bool} (h : IsFn F k cap n b) (hs : ∀ X, Sat F' X → Sat F X) : IsFn F' k cap n b := ⟨h.1, fun X hX => h.2 X (hs X hX)⟩
/-- What stands in the block of a truth. -/
structure TruF (F : Fz) (gx : Nat) (An : Option Addr) (nn cn : Nat) (Ae : Option Addr) (ne ce : Nat) (es : List Evt) : Prop where
  t0 : F.cell ⟨gx, 0, none⟩ = some (.slice An nn cn)
  t1 : F.cell ⟨gx, 1, none⟩ = some (.slice Ae ne ce)
  evs : EvsF F Ae ne es
/-- Of the first m points, from the last one on: one is so, and all behind it go on. -/
def someD (is on : Nat → Bool) : Nat → Bool
  | 0 => false
  | m + 1 => is m || (on m && someD is on m)
theorem someD_P (is on : Nat → Bool) : ∀ i, someD is on (i + 1) = someP is on i
  | 0 => by unfold someD someD someP; simp
  | i + 1 => by rw [someD, someD_P is on i]; rfl
theorem always_fn (F : Fz) (n : Nat) : IsFn F 85 #[] n allw := ⟨enters_of Tryz.func85 (by kernel_rfl) rfl, fun X _ i _ => by
  show Calls Tryz.prog 85 #[.int .i64 (i : Nat)] X _
  go_enter Tryz.func85, Tryz.ntmps85
  go_wp2_with fail
  go_ret
  exact ⟨rfl, Below.refl _ _⟩⟩
set_option maxRecDepth 100000 in
set_option maxHeartbeats 2000000 in
theorem fill_w {F : Fz} {w : World} (hF : Sat F w) (gx : Nat) (An : Option Addr) (nn cn : Nat) (Ae : Option Addr) (ne ce : Nat) (es : List Evt) (hT : TruF F gx An nn cn Ae ne ce es) (hn : ne ≤ 1000) (k : Nat) (cap : Array Value) (b : Nat → Bool) (hk : IsFn F k cap ne b) :
    Calls Tryz.prog 81 #[.pointer (some ⟨gx, 0, none⟩), .func (.func k) #[] cap] w fun e w' => ∃ g, e = .returned (.slice (some ⟨g, 0, none⟩) ne ne) ∧ Below w.heap.size w w' ∧ w.heap.size ≤ g ∧ Blk w' g 4 (rowV ne b) := by
  obtain ⟨hk0, hk1⟩ := hk
  have HK := Lib.hid hk1
  have hmk := fun (X : World) => makeB ne (by omega) X
  have q1 := hF.cell hT.t1
  have hg0 := Blk.new w 4 (rowV ne fun _ => false)
  have hb0 := balloc w (.cells (rowV ne fun _ => false) 4)
  have hFg : F w.heap.size = none := hF.none_ (Nat.le_refl _)
  clear hk1 hT
  go_enter Tryz.func81, Tryz.ntmps81
  go_wp2_with fail
  obtain ⟨g, hg⟩ : ∃ g, w.heap.size = g := ⟨_, rfl⟩
  obtain ⟨w1, hw1⟩ : ∃ w1, w.alloc (.cells (rowV ne fun _ => false) 4) = w1 := ⟨_, rfl⟩
  rw [hg] at hg0 hFg ⊢
  rw [hw1] at hg0 hb0 ⊢
  rw [rowV_congr (r' := fun i => decide (i < 0) && b i) (fun i _ => by simp)] at hg0
  have HG := Lib.hid hg
  clear hw1 hg hmk q1
  go_loopw [6, 16] (fun _ v16 wr => ∃ j : Nat, j ≤ ne ∧ v16 = .int .i64 j ∧ Blk wr g 4 (rowV ne fun i => decide (i < j) && b i) ∧ Below w.heap.size w wr) (fun _ v16 _ => ne - (intOf v16).toNat)
  case atStart => exact ⟨0, Nat.zero_le _, rfl, hg0, hb0⟩
  case round =>
    obtain ⟨j, hj, rfl, hgr, hbr⟩ := hrel
    have hFr := hF.below hbr
    by_cases hlt : j < ne
    · have hjI : (j : Int) < (ne : Int) := by omega
      have HC := Lib.hid (HK.out wr hFr j hlt)
      have HGR := Lib.hid hgr
      clear hgr
      go_wp2_with fail
      refine HC.out.mono ?_
      rintro e w2 ⟨rfl, hb2⟩
      have hg2 := HGR.out.call hb2
      have z1 : w2.cell? ⟨g, j, none⟩ = some (.bool (decide (j < j) && b j)) := by rw [hg2.cell, get_rowV hlt]
      have z2 := hg2.frozen j
      go_wp2_with fail
      go_roundw
      case rel => exact ⟨j + 1, by omega, by go_num, by
        have := hg2.set_ j (.bool (b j))
        rwa [set_rowV (r' := fun i => decide (i < j + 1) && b i) (fun q _ => by
          by_cases e : q = j
          · subst e; simp
          · rw [if_neg e]; congr 1; rw [decide_eq_decide]; omega)] at this, (bthen hbr hb2).setCell (p := ⟨g, j, none⟩) (by rw [HG.out]; exact Nat.le_refl _) _⟩
      case measure => simp [intOf]; omega
    · obtain rfl : j = ne := by omega
      have hdec : decide ((j : Int) < (j : Int)) = false := decide_eq_false (by omega)
      rw [rowV_congr (r' := b) (fun i h => by rw [decide_eq_true h]; rfl)] at hgr
      go_wp2_with fail
      go_ret
      exact ⟨g, rfl, hbr, by rw [HG.out]; exact Nat.le_refl _, hgr⟩
set_option maxRecDepth 100000 in
set_option maxHeartbeats 4000000 in
theorem someP_w {F : Fz} {w : World} (hF : Sat F w) (gx : Nat) (An : Option Addr) (nn cn : Nat) (Ae : Option Addr) (ne ce : Nat) (es : List Evt) (hT : TruF F gx An nn cn Ae ne ce es) (hn : ne ≤ 1000) (lo hi : Int) (hs : spanS lo hi = true) (i : Nat) (hi' : i < ne)
    (k1 k2 : Nat) (cap1 cap2 : Array Value) (isb onb : Nat → Bool) (hk1 : IsFn F k1 cap1 ne isb) (hk2 : IsFn F k2 cap2 ne onb) (R : Bool) (hR : someP (fun j => hasD lo hi (gapE es i j) && isb j) onb i = R) :
    Calls Tryz.prog 83 #[.pointer (some ⟨gx, 0, none⟩), .agg #[.int .i64 lo, .int .i64 hi], .int .i64 (i : Nat), .int .i64 (-1), .func (.func k1) #[] cap1, .func (.func k2) #[] cap2] w fun e w' => e = .returned (.bool R) ∧ Below w.heap.size w w' := by
  rw [← someD_P] at hR
  obtain ⟨e1, hk1⟩ := hk1
  obtain ⟨e2, hk2⟩ := hk2
  have HK1 := Lib.hid hk1
  have HK2 := Lib.hid hk2
  have HT := Lib.hid hT
  have HR := Lib.hid hR
  have hb0 := balloc w (.cells #[.int .i64 lo, .int .i64 hi] 60)
  have HB := Lib.hid (Blk.new w 60 #[.int .i64 lo, .int .i64 hi])
  have HAp := Lib.hid (fun (X : World) (h : Sat F X) j hj => apart_w h es An nn cn Ae ne ce hT.evs i j hi' hj)
  have HHs := Lib.hid (fun (X : World) j (hj : j < ne) => ihas_w lo hi hs (gapE es i j) (by
    have h1 := (hT.evs.at_ hi').1
    have h2 := (hT.evs.at_ hj).1
    unfold gapE; omega) X)
  clear hk1 hk2 hT hR hs
  go_enter Tryz.func83, Tryz.ntmps83
  go_wp2_with fail
  go_loopw [13] (fun v13 wr => ∃ m : Nat, m ≤ i + 1 ∧ v13 = .int .i64 ((m : Int) - 1) ∧ someD (fun j => hasD lo hi (gapE es i j) && isb j) onb m = R ∧ Below (w.alloc (.cells #[.int .i64 lo, .int .i64 hi] 60)).heap.size (w.alloc (.cells #[.int .i64 lo, .int .i64 hi] 60)) wr) (fun v13 _ => ((intOf v13) + 1).toNat)
  case atStart => exact ⟨i + 1, Nat.le_refl _, by simp, HR.out, Below.refl _ _⟩
  case round =>
    obtain ⟨m, hm, rfl, hm2, hbr⟩ := hrel
    cases m with
    | zero =>
      obtain rfl : R = false := hm2.symm
      go_wp2_with fail
      go_ret
      exact ⟨rfl, bthen hb0 hbr⟩
    | succ j =>
      have e13 : ((j + 1 : Nat) : Int) - 1 = (j : Int) := by omega
      rw [e13]
      have hjn : j < ne := by omega
      have hj0 : (0 : Int) ≤ (j : Int) := by omega
      have hjI : (j : Int) < (ne : Int) := by omega
      have hbT := bthen hb0 hbr
      have hFr := hF.below hbT
      obtain ⟨k0, k1, _, _⟩ := blkA (HB.out.call hbr)
      have hkl := HB.out.lt
      have x0 := hFr.cell HT.out.t0
      have x1 := hFr.cell HT.out.t1
      have hm3 : (hasD lo hi (gapE es i j) && isb j || onb j && someD (fun j => hasD lo hi (gapE es i j) && isb j) onb j) = R := hm2
      have HA := Lib.hid (fun (X : World) (h : Sat F X) => HAp.out X h j hjn)
      have HH := Lib.hid (fun (X : World) => HHs.out X j hjn)
      have HI := Lib.hid (fun (X : World) (h : Sat F X) => HK1.out X h j hjn)
      have HO := Lib.hid (fun (X : World) (h : Sat F X) => HK2.out X h j hjn)
      obtain ⟨D, hD⟩ : ∃ D, hasD lo hi (gapE es i j) = D := ⟨_, rfl⟩
      obtain ⟨I, hI⟩ : ∃ I, isb j = I := ⟨_, rfl⟩
      obtain ⟨O, hO⟩ : ∃ O, onb j = O := ⟨_, rfl⟩
      rw [hD] at HH
      rw [hI] at HI
      rw [hO] at HO
      rw [hD, hI, hO] at hm3
      have HM3 := Lib.hid hm3
      have hkr : w.heap.size < wr.heap.size := Nat.lt_of_lt_of_le hkl hbr.size
      clear hm2 hm3 hD hI hO e13 HAp HHs HK1 HK2
      -- ROUND P
      cases D with
      | false =>
        cases O with
        | false =>
          obtain rfl : R = false := by rw [← HM3.out]; rfl
          clear HM3
          go_wp2_with fail
          refine wp_region_noPanic ?_
          refine wp_region_held_drew (S := (fun w' => w'.cell? ⟨w.heap.size, 0, none⟩ = some (.int .i64 lo) ∧ w'.cell? ⟨w.heap.size, 1, none⟩ = some (.int .i64 hi) ∧ w'.cell? ⟨gx, 0, none⟩ = some (.slice An nn cn) ∧ w'.cell? ⟨gx, 1, none⟩ = some (.slice Ae ne ce))) (by kernel_rfl) ?hS0 (fun hHeld => ?hR0)
          case hS0 => (try dsimp only); go_keep
          case hR0 =>
            refine tk 0 (h := ?_)
            try simp only [pn]
            refine tk 1 (h := ?_)
            try simp only [pn]
            refine tk 2 (h := ?_)
            try simp only [pn]
            refine tk 3 (h := ?_)
            try simp only [pn]
            refine tk 4 (h := ?_)
            try simp only [pn]
            refine tk 5 (h := ?_)
            try simp only [pn]
            refine tk 6 (h := ?_)
            try simp only [pn]
            refine wpAnyH_ready (rs := [7]) (by kernel_rfl) (by simp) ?_
            refine AllReadyH.cons (o := ?sO1) ?sA1 (fun K hK => ?sB1) ?sC1
            case sA1 => simp only [List.getElem?_toArray, List.getElem?_cons_succ, List.getElem?_cons_zero]; rfl
            case sC1 => exact AllReadyH.nil
            case sB1 =>
              go_simp
              go_at_call 121; refine (HA.out _ (by first | exact hFr | exact hFr.drew)).mono ?_; rintro e w2 ⟨rfl, hw2⟩; have hc2 : Below wr.heap.size wr w2 := (by refine bel_trans ?_ hw2; first | exact bel_eqv (Below.refl _ wr) rfl rfl rfl rfl); have r0 := (hc2.cell (p := ⟨w.heap.size, 0, none⟩) hkr).trans k0; have r1 := (hc2.cell (p := ⟨w.heap.size, 1, none⟩) hkr).trans k1; have r2 := (hFr.below hc2).cell HT.out.t0; have r3 := (hFr.below hc2).cell HT.out.t1
              try go_wp2_with fail
              refine hK.out _ _ ?kS1 (fun hHeld => ?kR1)
              case kS1 => (try dsimp only); go_keep
              case kR1 =>
                clear hK K
                try simp only [Act.put, List.setIfInBounds_toArray, List.set_cons_zero, List.set_cons_succ]
                refine wpAnyH_ready (rs := [8]) (by kernel_rfl) (by simp) ?_
                refine AllReadyH.cons (o := ?sO2) ?sA2 (fun K hK => ?sB2) ?sC2
                case sA2 => simp only [List.getElem?_toArray, List.getElem?_cons_succ, List.getElem?_cons_zero]; rfl
                case sC2 => exact AllReadyH.nil
                case sB2 =>
                  go_simp
                  go_at_call 120; refine (HH.out _).mono ?_; rintro e w3 ⟨rfl, hw3⟩; have hc3 : Below wr.heap.size wr w3 := (by refine bel_trans ?_ hw3; first | exact bel_eqv hc2 rfl rfl rfl rfl); have s0 := (hc3.cell (p := ⟨w.heap.size, 0, none⟩) hkr).trans k0; have s1 := (hc3.cell (p := ⟨w.heap.size, 1, none⟩) hkr).trans k1; have s2 := (hFr.below hc3).cell HT.out.t0; have s3 := (hFr.below hc3).cell HT.out.t1
                  try go_wp2_with fail
                  refine hK.out _ _ ?kS2 (fun hHeld => ?kR2)
                  case kS2 => (try dsimp only); go_keep
                  case kR2 =>
                    clear hK K
                    try simp only [Act.put, List.setIfInBounds_toArray, List.set_cons_zero, List.set_cons_succ]
                    refine tk 9 (h := ?_)
                    try simp only [pn]
                    refine sk 10 (h := ?_)
                    try simp only [pn]
                    refine sk 11 (h := ?_)
                    try simp only [pn]
                    refine sk 12 (h := ?_)
                    try simp only [pn]
                    refine tk 13 (h := ?_)
                    try simp only [pn]
                    refine wpAnyH_done (by kernel_rfl) ?_ _
                    refine NoPanic.normal ?_
                    go_wp2_with fail
                    refine (HO.out _ (by first | exact hFr.below hc3 | exact (hFr.below hc3).drew)).mono ?_
                    rintro e w5 ⟨rfl, hw5⟩
                    go_wp2_with fail
                    go_ret
                    exact ⟨rfl, bthen hbT (bthen hc3 hw5)⟩
        | true =>
          have HN := HM3
          clear HM3
          go_wp2_with fail
          refine wp_region_noPanic ?_
          refine wp_region_held_drew (S := (fun w' => w'.cell? ⟨w.heap.size, 0, none⟩ = some (.int .i64 lo) ∧ w'.cell? ⟨w.heap.size, 1, none⟩ = some (.int .i64 hi) ∧ w'.cell? ⟨gx, 0, none⟩ = some (.slice An nn cn) ∧ w'.cell? ⟨gx, 1, none⟩ = some (.slice Ae ne ce))) (by kernel_rfl) ?hS0 (fun hHeld => ?hR0)
          case hS0 => (try dsimp only); go_keep
          case hR0 =>
            refine tk 0 (h := ?_)
            try simp only [pn]
            refine tk 1 (h := ?_)
            try simp only [pn]
            refine tk 2 (h := ?_)
            try simp only [pn]
            refine tk 3 (h := ?_)
            try simp only [pn]
            refine tk 4 (h := ?_)
            try simp only [pn]
            refine tk 5 (h := ?_)
            try simp only [pn]
            refine tk 6 (h := ?_)
            try simp only [pn]
            refine wpAnyH_ready (rs := [7]) (by kernel_rfl) (by simp) ?_
            refine AllReadyH.cons (o := ?sO3) ?sA3 (fun K hK => ?sB3) ?sC3
            case sA3 => simp only [List.getElem?_toArray, List.getElem?_cons_succ, List.getElem?_cons_zero]; rfl
            case sC3 => exact AllReadyH.nil
            case sB3 =>
              go_simp
              go_at_call 121; refine (HA.out _ (by first | exact hFr | exact hFr.drew)).mono ?_; rintro e w2 ⟨rfl, hw2⟩; have hc2 : Below wr.heap.size wr w2 := (by refine bel_trans ?_ hw2; first | exact bel_eqv (Below.refl _ wr) rfl rfl rfl rfl); have r0 := (hc2.cell (p := ⟨w.heap.size, 0, none⟩) hkr).trans k0; have r1 := (hc2.cell (p := ⟨w.heap.size, 1, none⟩) hkr).trans k1; have r2 := (hFr.below hc2).cell HT.out.t0; have r3 := (hFr.below hc2).cell HT.out.t1
              try go_wp2_with fail
              refine hK.out _ _ ?kS3 (fun hHeld => ?kR3)
              case kS3 => (try dsimp only); go_keep
              case kR3 =>
                clear hK K
                try simp only [Act.put, List.setIfInBounds_toArray, List.set_cons_zero, List.set_cons_succ]
                refine wpAnyH_ready (rs := [8]) (by kernel_rfl) (by simp) ?_
                refine AllReadyH.cons (o := ?sO4) ?sA4 (fun K hK => ?sB4) ?sC4
                case sA4 => simp only [List.getElem?_toArray, List.getElem?_cons_succ, List.getElem?_cons_zero]; rfl
                case sC4 => exact AllReadyH.nil
                case sB4 =>
                  go_simp
                  go_at_call 120; refine (HH.out _).mono ?_; rintro e w3 ⟨rfl, hw3⟩; have hc3 : Below wr.heap.size wr w3 := (by refine bel_trans ?_ hw3; first | exact bel_eqv hc2 rfl rfl rfl rfl); have s0 := (hc3.cell (p := ⟨w.heap.size, 0, none⟩) hkr).trans k0; have s1 := (hc3.cell (p := ⟨w.heap.size, 1, none⟩) hkr).trans k1; have s2 := (hFr.below hc3).cell HT.out.t0; have s3 := (hFr.below hc3).cell HT.out.t1
                  try go_wp2_with fail
                  refine hK.out _ _ ?kS4 (fun hHeld => ?kR4)
                  case kS4 => (try dsimp only); go_keep
                  case kR4 =>
                    clear hK K
                    try simp only [Act.put, List.setIfInBounds_toArray, List.set_cons_zero, List.set_cons_succ]
                    refine tk 9 (h := ?_)
                    try simp only [pn]
                    refine sk 10 (h := ?_)
                    try simp only [pn]
                    refine sk 11 (h := ?_)
                    try simp only [pn]
                    refine sk 12 (h := ?_)
                    try simp only [pn]
                    refine tk 13 (h := ?_)
                    try simp only [pn]
                    refine wpAnyH_done (by kernel_rfl) ?_ _
                    refine NoPanic.normal ?_
                    go_wp2_with fail
                    refine (HO.out _ (by first | exact hFr.below hc3 | exact (hFr.below hc3).drew)).mono ?_
                    rintro e w5 ⟨rfl, hw5⟩
                    go_wp2_with fail
                    go_roundw
                    case rel => exact ⟨j, by omega, by go_num, HN.out, bthen hbr (bthen hc3 hw5)⟩
                    case measure => simp [intOf]; omega
      | true =>
        cases I with
        | true =>
          obtain rfl : R = true := by rw [← HM3.out]; rfl
          clear HM3 HO
          go_wp2_with fail
          go_region_held3 (fun w' => w'.cell? ⟨w.heap.size, 0, none⟩ = some (.int .i64 lo) ∧ w'.cell? ⟨w.heap.size, 1, none⟩ = some (.int .i64 hi) ∧ w'.cell? ⟨gx, 0, none⟩ = some (.slice An nn cn) ∧ w'.cell? ⟨gx, 1, none⟩ = some (.slice Ae ne ce)) (go_keep)
            (first
              | (go_at_call 120; refine (HH.out _).mono ?_; rintro e w3 ⟨rfl, hw3⟩; have hc3 : Below wr.heap.size wr w3 := (by refine bel_trans ?_ hw3; first | exact bel_eqv hc2 rfl rfl rfl rfl); have s0 := (hc3.cell (p := ⟨w.heap.size, 0, none⟩) hkr).trans k0; have s1 := (hc3.cell (p := ⟨w.heap.size, 1, none⟩) hkr).trans k1; have s2 := (hFr.below hc3).cell HT.out.t0; have s3 := (hFr.below hc3).cell HT.out.t1)
              | (go_at_call 121; refine (HA.out _ (by first | exact hFr | exact hFr.drew)).mono ?_; rintro e w2 ⟨rfl, hw2⟩; have hc2 : Below wr.heap.size wr w2 := (by refine bel_trans ?_ hw2; first | exact bel_eqv (Below.refl _ wr) rfl rfl rfl rfl); have r0 := (hc2.cell (p := ⟨w.heap.size, 0, none⟩) hkr).trans k0; have r1 := (hc2.cell (p := ⟨w.heap.size, 1, none⟩) hkr).trans k1; have r2 := (hFr.below hc2).cell HT.out.t0; have r3 := (hFr.below hc2).cell HT.out.t1)
              | (refine (HI.out _ (by first | exact hFr.below hc3 | exact (hFr.below hc3).drew)).mono ?_; rintro e w4 ⟨rfl, hw4⟩; have hc4 : Below wr.heap.size wr w4 := (by refine bel_trans ?_ hw4; first | exact bel_eqv hc3 rfl rfl rfl rfl); have t0 := (hc4.cell (p := ⟨w.heap.size, 0, none⟩) hkr).trans k0; have t1 := (hc4.cell (p := ⟨w.heap.size, 1, none⟩) hkr).trans k1; have t2 := (hFr.below hc4).cell HT.out.t0; have t3 := (hFr.below hc4).cell HT.out.t1))
          all_goals
            go_wp2_with fail
            go_ret
            exact ⟨rfl, bthen hbT hc4⟩
        | false =>
          cases O with
          | false =>
            obtain rfl : R = false := by rw [← HM3.out]; rfl
            clear HM3
            go_wp2_with fail
            go_region_held3 (fun w' => w'.cell? ⟨w.heap.size, 0, none⟩ = some (.int .i64 lo) ∧ w'.cell? ⟨w.heap.size, 1, none⟩ = some (.int .i64 hi) ∧ w'.cell? ⟨gx, 0, none⟩ = some (.slice An nn cn) ∧ w'.cell? ⟨gx, 1, none⟩ = some (.slice Ae ne ce)) (go_keep)
              (first
                | (go_at_call 120; refine (HH.out _).mono ?_; rintro e w3 ⟨rfl, hw3⟩; have hc3 : Below wr.heap.size wr w3 := (by refine bel_trans ?_ hw3; first | exact bel_eqv hc2 rfl rfl rfl rfl); have s0 := (hc3.cell (p := ⟨w.heap.size, 0, none⟩) hkr).trans k0; have s1 := (hc3.cell (p := ⟨w.heap.size, 1, none⟩) hkr).trans k1; have s2 := (hFr.below hc3).cell HT.out.t0; have s3 := (hFr.below hc3).cell HT.out.t1)
                | (go_at_call 121; refine (HA.out _ (by first | exact hFr | exact hFr.drew)).mono ?_; rintro e w2 ⟨rfl, hw2⟩; have hc2 : Below wr.heap.size wr w2 := (by refine bel_trans ?_ hw2; first | exact bel_eqv (Below.refl _ wr) rfl rfl rfl rfl); have r0 := (hc2.cell (p := ⟨w.heap.size, 0, none⟩) hkr).trans k0; have r1 := (hc2.cell (p := ⟨w.heap.size, 1, none⟩) hkr).trans k1; have r2 := (hFr.below hc2).cell HT.out.t0; have r3 := (hFr.below hc2).cell HT.out.t1)
                | (refine (HI.out _ (by first | exact hFr.below hc3 | exact (hFr.below hc3).drew)).mono ?_; rintro e w4 ⟨rfl, hw4⟩; have hc4 : Below wr.heap.size wr w4 := (by refine bel_trans ?_ hw4; first | exact bel_eqv hc3 rfl rfl rfl rfl); have t0 := (hc4.cell (p := ⟨w.heap.size, 0, none⟩) hkr).trans k0; have t1 := (hc4.cell (p := ⟨w.heap.size, 1, none⟩) hkr).trans k1; have t2 := (hFr.below hc4).cell HT.out.t0; have t3 := (hFr.below hc4).cell HT.out.t1))
            all_goals
              go_wp2_with fail
              refine (HO.out _ (by first | exact hFr.below hc4 | exact (hFr.below hc4).drew)).mono ?_
              rintro e w5 ⟨rfl, hw5⟩
              go_wp2_with fail
              go_ret
              exact ⟨rfl, bthen hbT (bthen hc4 hw5)⟩
          | true =>
            have HN := HM3
            clear HM3
            go_wp2_with fail
            go_region_held3 (fun w' => w'.cell? ⟨w.heap.size, 0, none⟩ = some (.int .i64 lo) ∧ w'.cell? ⟨w.heap.size, 1, none⟩ = some (.int .i64 hi) ∧ w'.cell? ⟨gx, 0, none⟩ = some (.slice An nn cn) ∧ w'.cell? ⟨gx, 1, none⟩ = some (.slice Ae ne ce)) (go_keep)
              (first
                | (go_at_call 120; refine (HH.out _).mono ?_; rintro e w3 ⟨rfl, hw3⟩; have hc3 : Below wr.heap.size wr w3 := (by refine bel_trans ?_ hw3; first | exact bel_eqv hc2 rfl rfl rfl rfl); have s0 := (hc3.cell (p := ⟨w.heap.size, 0, none⟩) hkr).trans k0; have s1 := (hc3.cell (p := ⟨w.heap.size, 1, none⟩) hkr).trans k1; have s2 := (hFr.below hc3).cell HT.out.t0; have s3 := (hFr.below hc3).cell HT.out.t1)
                | (go_at_call 121; refine (HA.out _ (by first | exact hFr | exact hFr.drew)).mono ?_; rintro e w2 ⟨rfl, hw2⟩; have hc2 : Below wr.heap.size wr w2 := (by refine bel_trans ?_ hw2; first | exact bel_eqv (Below.refl _ wr) rfl rfl rfl rfl); have r0 := (hc2.cell (p := ⟨w.heap.size, 0, none⟩) hkr).trans k0; have r1 := (hc2.cell (p := ⟨w.heap.size, 1, none⟩) hkr).trans k1; have r2 := (hFr.below hc2).cell HT.out.t0; have r3 := (hFr.below hc2).cell HT.out.t1)
                | (refine (HI.out _ (by first | exact hFr.below hc3 | exact (hFr.below hc3).drew)).mono ?_; rintro e w4 ⟨rfl, hw4⟩; have hc4 : Below wr.heap.size wr w4 := (by refine bel_trans ?_ hw4; first | exact bel_eqv hc3 rfl rfl rfl rfl); have t0 := (hc4.cell (p := ⟨w.heap.size, 0, none⟩) hkr).trans k0; have t1 := (hc4.cell (p := ⟨w.heap.size, 1, none⟩) hkr).trans k1; have t2 := (hFr.below hc4).cell HT.out.t0; have t3 := (hFr.below hc4).cell HT.out.t1))
            all_goals
              go_wp2_with fail
              refine (HO.out _ (by first | exact hFr.below hc4 | exact (hFr.below hc4).drew)).mono ?_
              rintro e w5 ⟨rfl, hw5⟩
              go_wp2_with fail
              go_roundw
              case rel => exact ⟨j, by omega, by go_num, HN.out, bthen hbr (bthen hc4 hw5)⟩
              case measure => simp [intOf]; omega
      -- END
set_option maxRecDepth 100000 in
set_option maxHeartbeats 4000000 in
theorem someU_w {F : Fz} {w : World} (hF : Sat F w) (gx : Nat) (An : Option Addr) (nn cn : Nat) (Ae : Option Addr) (ne ce : Nat) (es : List Evt) (hT : TruF F gx An nn cn Ae ne ce es) (hn : ne ≤ 1000) (lo hi : Int) (hs : spanS lo hi = true) (i : Nat) (hi' : i < ne)
    (k1 k2 : Nat) (cap1 cap2 : Array Value) (isb onb : Nat → Bool) (hk1 : IsFn F k1 cap1 ne isb) (hk2 : IsFn F k2 cap2 ne onb) (R : Bool) (hR : someU (fun j => hasD lo hi (gapE es i j) && isb j) onb (ne - i) i = R) :
    Calls Tryz.prog 83 #[.pointer (some ⟨gx, 0, none⟩), .agg #[.int .i64 lo, .int .i64 hi], .int .i64 (i : Nat), .int .i64 1, .func (.func k1) #[] cap1, .func (.func k2) #[] cap2] w fun e w' => e = .returned (.bool R) ∧ Below w.heap.size w w' := by
  obtain ⟨e1, hk1⟩ := hk1
  obtain ⟨e2, hk2⟩ := hk2
  have HK1 := Lib.hid hk1
  have HK2 := Lib.hid hk2
  have HT := Lib.hid hT
  have HR := Lib.hid hR
  have hb0 := balloc w (.cells #[.int .i64 lo, .int .i64 hi] 60)
  have HB := Lib.hid (Blk.new w 60 #[.int .i64 lo, .int .i64 hi])
  have HAp := Lib.hid (fun (X : World) (h : Sat F X) j hj => apart_w h es An nn cn Ae ne ce hT.evs i j hi' hj)
  have HHs := Lib.hid (fun (X : World) j (hj : j < ne) => ihas_w lo hi hs (gapE es i j) (by
    have h1 := (hT.evs.at_ hi').1
    have h2 := (hT.evs.at_ hj).1
    unfold gapE; omega) X)
  clear hk1 hk2 hT hR hs
  go_enter Tryz.func83, Tryz.ntmps83
  go_wp2_with fail
  go_loopw [13] (fun v13 wr => ∃ j : Nat, i ≤ j ∧ j ≤ ne ∧ v13 = .int .i64 j ∧ someU (fun j => hasD lo hi (gapE es i j) && isb j) onb (ne - j) j = R ∧ Below (w.alloc (.cells #[.int .i64 lo, .int .i64 hi] 60)).heap.size (w.alloc (.cells #[.int .i64 lo, .int .i64 hi] 60)) wr) (fun v13 _ => ne - (intOf v13).toNat)
  case atStart => exact ⟨i, Nat.le_refl _, by omega, rfl, HR.out, Below.refl _ _⟩
  case round =>
    obtain ⟨j, hij, hjn', rfl, hm2, hbr⟩ := hrel
    have hbT := bthen hb0 hbr
    have hFr := hF.below hbT
    have x1 := hFr.cell HT.out.t1
    have hj0 : (0 : Int) ≤ (j : Int) := by omega
    by_cases hjn : ¬ j < ne
    · have e : ne - j = 0 := by omega
      rw [e] at hm2
      obtain rfl : R = false := hm2.symm
      have hd : decide ((j : Int) < (ne : Int)) = false := decide_eq_false (by omega)
      clear hm2 e
      go_wp2_with fail
      go_ret
      exact ⟨rfl, hbT⟩
    · have hjn : j < ne := Decidable.not_not.1 hjn
      obtain ⟨m, hm⟩ : ∃ m, ne - j = m + 1 := ⟨ne - j - 1, by omega⟩
      have HMM : Hid (ne - (j + 1) = m) := Lib.hid (by omega)
      rw [hm] at hm2
      have hjI : (j : Int) < (ne : Int) := by omega
      obtain ⟨k0, k1, _, _⟩ := blkA (HB.out.call hbr)
      have hkl := HB.out.lt
      have x0 := hFr.cell HT.out.t0
      have hm3 : (hasD lo hi (gapE es i j) && isb j || onb j && someU (fun j => hasD lo hi (gapE es i j) && isb j) onb m (j + 1)) = R := hm2
      have HA := Lib.hid (fun (X : World) (h : Sat F X) => HAp.out X h j hjn)
      have HH := Lib.hid (fun (X : World) => HHs.out X j hjn)
      have HI := Lib.hid (fun (X : World) (h : Sat F X) => HK1.out X h j hjn)
      have HO := Lib.hid (fun (X : World) (h : Sat F X) => HK2.out X h j hjn)
      obtain ⟨D, hD⟩ : ∃ D, hasD lo hi (gapE es i j) = D := ⟨_, rfl⟩
      obtain ⟨I, hI⟩ : ∃ I, isb j = I := ⟨_, rfl⟩
      obtain ⟨O, hO⟩ : ∃ O, onb j = O := ⟨_, rfl⟩
      rw [hD] at HH
      rw [hI] at HI
      rw [hO] at HO
      rw [hD, hI, hO] at hm3
      have HM3 := Lib.hid hm3
      have hkr : w.heap.size < wr.heap.size := Nat.lt_of_lt_of_le hkl hbr.size
      clear hm hm2 hm3 hD hI hO HAp HHs HK1 HK2
      -- ROUND U
      cases D with
      | false =>
        cases O with
        | false =>
          obtain rfl : R = false := by rw [← HM3.out]; rfl
          clear HM3
          go_wp2_with fail
          refine wp_region_noPanic ?_
          refine wp_region_held_drew (S := (fun w' => w'.cell? ⟨w.heap.size, 0, none⟩ = some (.int .i64 lo) ∧ w'.cell? ⟨w.heap.size, 1, none⟩ = some (.int .i64 hi) ∧ w'.cell? ⟨gx, 0, none⟩ = some (.slice An nn cn) ∧ w'.cell? ⟨gx, 1, none⟩ = some (.slice Ae ne ce))) (by kernel_rfl) ?hS0 (fun hHeld => ?hR0)
          case hS0 => (try dsimp only); go_keep
          case hR0 =>
            refine tk 0 (h := ?_)
            try simp only [pn]
            refine tk 1 (h := ?_)
            try simp only [pn]
            refine tk 2 (h := ?_)
            try simp only [pn]
            refine tk 3 (h := ?_)
            try simp only [pn]
            refine tk 4 (h := ?_)
            try simp only [pn]
            refine tk 5 (h := ?_)
            try simp only [pn]
            refine tk 6 (h := ?_)
            try simp only [pn]
            refine wpAnyH_ready (rs := [7]) (by kernel_rfl) (by simp) ?_
            refine AllReadyH.cons (o := ?sO5) ?sA5 (fun K hK => ?sB5) ?sC5
            case sA5 => simp only [List.getElem?_toArray, List.getElem?_cons_succ, List.getElem?_cons_zero]; rfl
            case sC5 => exact AllReadyH.nil
            case sB5 =>
              go_simp
              go_at_call 121; refine (HA.out _ (by first | exact hFr | exact hFr.drew)).mono ?_; rintro e w2 ⟨rfl, hw2⟩; have hc2 : Below wr.heap.size wr w2 := (by refine bel_trans ?_ hw2; first | exact bel_eqv (Below.refl _ wr) rfl rfl rfl rfl); have r0 := (hc2.cell (p := ⟨w.heap.size, 0, none⟩) hkr).trans k0; have r1 := (hc2.cell (p := ⟨w.heap.size, 1, none⟩) hkr).trans k1; have r2 := (hFr.below hc2).cell HT.out.t0; have r3 := (hFr.below hc2).cell HT.out.t1
              try go_wp2_with fail
              refine hK.out _ _ ?kS5 (fun hHeld => ?kR5)
              case kS5 => (try dsimp only); go_keep
              case kR5 =>
                clear hK K
                try simp only [Act.put, List.setIfInBounds_toArray, List.set_cons_zero, List.set_cons_succ]
                refine wpAnyH_ready (rs := [8]) (by kernel_rfl) (by simp) ?_
                refine AllReadyH.cons (o := ?sO6) ?sA6 (fun K hK => ?sB6) ?sC6
                case sA6 => simp only [List.getElem?_toArray, List.getElem?_cons_succ, List.getElem?_cons_zero]; rfl
                case sC6 => exact AllReadyH.nil
                case sB6 =>
                  go_simp
                  go_at_call 120; refine (HH.out _).mono ?_; rintro e w3 ⟨rfl, hw3⟩; have hc3 : Below wr.heap.size wr w3 := (by refine bel_trans ?_ hw3; first | exact bel_eqv hc2 rfl rfl rfl rfl); have s0 := (hc3.cell (p := ⟨w.heap.size, 0, none⟩) hkr).trans k0; have s1 := (hc3.cell (p := ⟨w.heap.size, 1, none⟩) hkr).trans k1; have s2 := (hFr.below hc3).cell HT.out.t0; have s3 := (hFr.below hc3).cell HT.out.t1
                  try go_wp2_with fail
                  refine hK.out _ _ ?kS6 (fun hHeld => ?kR6)
                  case kS6 => (try dsimp only); go_keep
                  case kR6 =>
                    clear hK K
                    try simp only [Act.put, List.setIfInBounds_toArray, List.set_cons_zero, List.set_cons_succ]
                    refine tk 9 (h := ?_)
                    try simp only [pn]
                    refine sk 10 (h := ?_)
                    try simp only [pn]
                    refine sk 11 (h := ?_)
                    try simp only [pn]
                    refine sk 12 (h := ?_)
                    try simp only [pn]
                    refine tk 13 (h := ?_)
                    try simp only [pn]
                    refine wpAnyH_done (by kernel_rfl) ?_ _
                    refine NoPanic.normal ?_
                    go_wp2_with fail
                    refine (HO.out _ (by first | exact hFr.below hc3 | exact (hFr.below hc3).drew)).mono ?_
                    rintro e w5 ⟨rfl, hw5⟩
                    go_wp2_with fail
                    go_ret
                    exact ⟨rfl, bthen hbT (bthen hc3 hw5)⟩
        | true =>
          have HN := HM3
          clear HM3
          go_wp2_with fail
          refine wp_region_noPanic ?_
          refine wp_region_held_drew (S := (fun w' => w'.cell? ⟨w.heap.size, 0, none⟩ = some (.int .i64 lo) ∧ w'.cell? ⟨w.heap.size, 1, none⟩ = some (.int .i64 hi) ∧ w'.cell? ⟨gx, 0, none⟩ = some (.slice An nn cn) ∧ w'.cell? ⟨gx, 1, none⟩ = some (.slice Ae ne ce))) (by kernel_rfl) ?hS0 (fun hHeld => ?hR0)
          case hS0 => (try dsimp only); go_keep
          case hR0 =>
            refine tk 0 (h := ?_)
            try simp only [pn]
            refine tk 1 (h := ?_)
            try simp only [pn]
            refine tk 2 (h := ?_)
            try simp only [pn]
            refine tk 3 (h := ?_)
            try simp only [pn]
            refine tk 4 (h := ?_)
            try simp only [pn]
            refine tk 5 (h := ?_)
            try simp only [pn]
            refine tk 6 (h := ?_)
            try simp only [pn]
            refine wpAnyH_ready (rs := [7]) (by kernel_rfl) (by simp) ?_
            refine AllReadyH.cons (o := ?sO7) ?sA7 (fun K hK => ?sB7) ?sC7
            case sA7 => simp only [List.getElem?_toArray, List.getElem?_cons_succ, List.getElem?_cons_zero]; rfl
            case sC7 => exact AllReadyH.nil
            case sB7 =>
              go_simp
              go_at_call 121; refine (HA.out _ (by first | exact hFr | exact hFr.drew)).mono ?_; rintro e w2 ⟨rfl, hw2⟩; have hc2 : Below wr.heap.size wr w2 := (by refine bel_trans ?_ hw2; first | exact bel_eqv (Below.refl _ wr) rfl rfl rfl rfl); have r0 := (hc2.cell (p := ⟨w.heap.size, 0, none⟩) hkr).trans k0; have r1 := (hc2.cell (p := ⟨w.heap.size, 1, none⟩) hkr).trans k1; have r2 := (hFr.below hc2).cell HT.out.t0; have r3 := (hFr.below hc2).cell HT.out.t1
              try go_wp2_with fail
              refine hK.out _ _ ?kS7 (fun hHeld => ?kR7)
              case kS7 => (try dsimp only); go_keep
              case kR7 =>
                clear hK K
                try simp only [Act.put, List.setIfInBounds_toArray, List.set_cons_zero, List.set_cons_succ]
                refine wpAnyH_ready (rs := [8]) (by kernel_rfl) (by simp) ?_
                refine AllReadyH.cons (o := ?sO8) ?sA8 (fun K hK => ?sB8) ?sC8
                case sA8 => simp only [List.getElem?_toArray, List.getElem?_cons_succ, List.getElem?_cons_zero]; rfl
                case sC8 => exact AllReadyH.nil
                case sB8 =>
                  go_simp
                  go_at_call 120; refine (HH.out _).mono ?_; rintro e w3 ⟨rfl, hw3⟩; have hc3 : Below wr.heap.size wr w3 := (by refine bel_trans ?_ hw3; first | exact bel_eqv hc2 rfl rfl rfl rfl); have s0 := (hc3.cell (p := ⟨w.heap.size, 0, none⟩) hkr).trans k0; have s1 := (hc3.cell (p := ⟨w.heap.size, 1, none⟩) hkr).trans k1; have s2 := (hFr.below hc3).cell HT.out.t0; have s3 := (hFr.below hc3).cell HT.out.t1
                  try go_wp2_with fail
                  refine hK.out _ _ ?kS8 (fun hHeld => ?kR8)
                  case kS8 => (try dsimp only); go_keep
                  case kR8 =>
                    clear hK K
                    try simp only [Act.put, List.setIfInBounds_toArray, List.set_cons_zero, List.set_cons_succ]
                    refine tk 9 (h := ?_)
                    try simp only [pn]
                    refine sk 10 (h := ?_)
                    try simp only [pn]
                    refine sk 11 (h := ?_)
                    try simp only [pn]
                    refine sk 12 (h := ?_)
                    try simp only [pn]
                    refine tk 13 (h := ?_)
                    try simp only [pn]
                    refine wpAnyH_done (by kernel_rfl) ?_ _
                    refine NoPanic.normal ?_
                    go_wp2_with fail
                    refine (HO.out _ (by first | exact hFr.below hc3 | exact (hFr.below hc3).drew)).mono ?_
                    rintro e w5 ⟨rfl, hw5⟩
                    go_wp2_with fail
                    go_roundw
                    case rel => exact ⟨j + 1, by omega, by omega, by go_num, by rw [HMM.out]; exact HN.out, bthen hbr (bthen hc3 hw5)⟩
                    case measure => simp [intOf]; omega
      | true =>
        cases I with
        | true =>
          obtain rfl : R = true := by rw [← HM3.out]; rfl
          clear HM3 HO
          go_wp2_with fail
          go_region_held3 (fun w' => w'.cell? ⟨w.heap.size, 0, none⟩ = some (.int .i64 lo) ∧ w'.cell? ⟨w.heap.size, 1, none⟩ = some (.int .i64 hi) ∧ w'.cell? ⟨gx, 0, none⟩ = some (.slice An nn cn) ∧ w'.cell? ⟨gx, 1, none⟩ = some (.slice Ae ne ce)) (go_keep)
            (first
              | (go_at_call 120; refine (HH.out _).mono ?_; rintro e w3 ⟨rfl, hw3⟩; have hc3 : Below wr.heap.size wr w3 := (by refine bel_trans ?_ hw3; first | exact bel_eqv hc2 rfl rfl rfl rfl); have s0 := (hc3.cell (p := ⟨w.heap.size, 0, none⟩) hkr).trans k0; have s1 := (hc3.cell (p := ⟨w.heap.size, 1, none⟩) hkr).trans k1; have s2 := (hFr.below hc3).cell HT.out.t0; have s3 := (hFr.below hc3).cell HT.out.t1)
              | (go_at_call 121; refine (HA.out _ (by first | exact hFr | exact hFr.drew)).mono ?_; rintro e w2 ⟨rfl, hw2⟩; have hc2 : Below wr.heap.size wr w2 := (by refine bel_trans ?_ hw2; first | exact bel_eqv (Below.refl _ wr) rfl rfl rfl rfl); have r0 := (hc2.cell (p := ⟨w.heap.size, 0, none⟩) hkr).trans k0; have r1 := (hc2.cell (p := ⟨w.heap.size, 1, none⟩) hkr).trans k1; have r2 := (hFr.below hc2).cell HT.out.t0; have r3 := (hFr.below hc2).cell HT.out.t1)
              | (refine (HI.out _ (by first | exact hFr.below hc3 | exact (hFr.below hc3).drew)).mono ?_; rintro e w4 ⟨rfl, hw4⟩; have hc4 : Below wr.heap.size wr w4 := (by refine bel_trans ?_ hw4; first | exact bel_eqv hc3 rfl rfl rfl rfl); have t0 := (hc4.cell (p := ⟨w.heap.size, 0, none⟩) hkr).trans k0; have t1 := (hc4.cell (p := ⟨w.heap.size, 1, none⟩) hkr).trans k1; have t2 := (hFr.below hc4).cell HT.out.t0; have t3 := (hFr.below hc4).cell HT.out.t1))
          all_goals
            go_wp2_with fail
            go_ret
            exact ⟨rfl, bthen hbT hc4⟩
        | false =>
          cases O with
          | false =>
            obtain rfl : R = false := by rw [← HM3.out]; rfl
            clear HM3
            go_wp2_with fail
            go_region_held3 (fun w' => w'.cell? ⟨w.heap.size, 0, none⟩ = some (.int .i64 lo) ∧ w'.cell? ⟨w.heap.size, 1, none⟩ = some (.int .i64 hi) ∧ w'.cell? ⟨gx, 0, none⟩ = some (.slice An nn cn) ∧ w'.cell? ⟨gx, 1, none⟩ = some (.slice Ae ne ce)) (go_keep)
              (first
                | (go_at_call 120; refine (HH.out _).mono ?_; rintro e w3 ⟨rfl, hw3⟩; have hc3 : Below wr.heap.size wr w3 := (by refine bel_trans ?_ hw3; first | exact bel_eqv hc2 rfl rfl rfl rfl); have s0 := (hc3.cell (p := ⟨w.heap.size, 0, none⟩) hkr).trans k0; have s1 := (hc3.cell (p := ⟨w.heap.size, 1, none⟩) hkr).trans k1; have s2 := (hFr.below hc3).cell HT.out.t0; have s3 := (hFr.below hc3).cell HT.out.t1)
                | (go_at_call 121; refine (HA.out _ (by first | exact hFr | exact hFr.drew)).mono ?_; rintro e w2 ⟨rfl, hw2⟩; have hc2 : Below wr.heap.size wr w2 := (by refine bel_trans ?_ hw2; first | exact bel_eqv (Below.refl _ wr) rfl rfl rfl rfl); have r0 := (hc2.cell (p := ⟨w.heap.size, 0, none⟩) hkr).trans k0; have r1 := (hc2.cell (p := ⟨w.heap.size, 1, none⟩) hkr).trans k1; have r2 := (hFr.below hc2).cell HT.out.t0; have r3 := (hFr.below hc2).cell HT.out.t1)
                | (refine (HI.out _ (by first | exact hFr.below hc3 | exact (hFr.below hc3).drew)).mono ?_; rintro e w4 ⟨rfl, hw4⟩; have hc4 : Below wr.heap.size wr w4 := (by refine bel_trans ?_ hw4; first | exact bel_eqv hc3 rfl rfl rfl rfl); have t0 := (hc4.cell (p := ⟨w.heap.size, 0, none⟩) hkr).trans k0; have t1 := (hc4.cell (p := ⟨w.heap.size, 1, none⟩) hkr).trans k1; have t2 := (hFr.below hc4).cell HT.out.t0; have t3 := (hFr.below hc4).cell HT.out.t1))
            all_goals
              go_wp2_with fail
              refine (HO.out _ (by first | exact hFr.below hc4 | exact (hFr.below hc4).drew)).mono ?_
              rintro e w5 ⟨rfl, hw5⟩
              go_wp2_with fail
              go_ret
              exact ⟨rfl, bthen hbT (bthen hc4 hw5)⟩
          | true =>
            have HN := HM3
            clear HM3
            go_wp2_with fail
            go_region_held3 (fun w' => w'.cell? ⟨w.heap.size, 0, none⟩ = some (.int .i64 lo) ∧ w'.cell? ⟨w.heap.size, 1, none⟩ = some (.int .i64 hi) ∧ w'.cell? ⟨gx, 0, none⟩ = some (.slice An nn cn) ∧ w'.cell? ⟨gx, 1, none⟩ = some (.slice Ae ne ce)) (go_keep)
              (first
                | (go_at_call 120; refine (HH.out _).mono ?_; rintro e w3 ⟨rfl, hw3⟩; have hc3 : Below wr.heap.size wr w3 := (by refine bel_trans ?_ hw3; first | exact bel_eqv hc2 rfl rfl rfl rfl); have s0 := (hc3.cell (p := ⟨w.heap.size, 0, none⟩) hkr).trans k0; have s1 := (hc3.cell (p := ⟨w.heap.size, 1, none⟩) hkr).trans k1; have s2 := (hFr.below hc3).cell HT.out.t0; have s3 := (hFr.below hc3).cell HT.out.t1)
                | (go_at_call 121; refine (HA.out _ (by first | exact hFr | exact hFr.drew)).mono ?_; rintro e w2 ⟨rfl, hw2⟩; have hc2 : Below wr.heap.size wr w2 := (by refine bel_trans ?_ hw2; first | exact bel_eqv (Below.refl _ wr) rfl rfl rfl rfl); have r0 := (hc2.cell (p := ⟨w.heap.size, 0, none⟩) hkr).trans k0; have r1 := (hc2.cell (p := ⟨w.heap.size, 1, none⟩) hkr).trans k1; have r2 := (hFr.below hc2).cell HT.out.t0; have r3 := (hFr.below hc2).cell HT.out.t1)
                | (refine (HI.out _ (by first | exact hFr.below hc3 | exact (hFr.below hc3).drew)).mono ?_; rintro e w4 ⟨rfl, hw4⟩; have hc4 : Below wr.heap.size wr w4 := (by refine bel_trans ?_ hw4; first | exact bel_eqv hc3 rfl rfl rfl rfl); have t0 := (hc4.cell (p := ⟨w.heap.size, 0, none⟩) hkr).trans k0; have t1 := (hc4.cell (p := ⟨w.heap.size, 1, none⟩) hkr).trans k1; have t2 := (hFr.below hc4).cell HT.out.t0; have t3 := (hFr.below hc4).cell HT.out.t1))
            all_goals
              go_wp2_with fail
              refine (HO.out _ (by first | exact hFr.below hc4 | exact (hFr.below hc4).drew)).mono ?_
              rintro e w5 ⟨rfl, hw5⟩
              go_wp2_with fail
              go_roundw
              case rel => exact ⟨j + 1, by omega, by omega, by go_num, by rw [HMM.out]; exact HN.out, bthen hbr (bthen hc4 hw5)⟩
              case measure => simp [intOf]; omega
      -- END
end Go.Proofs.YtdbbooibkiicnaaGreat
