/- Tables of Booleans in memory. -/
import Derived.Test.YtdbbooibkiicnaaGreatPathsP
import Derived.Test.YtdbbooibkiicnaaGreatMem
import Derived.Deep.RegionWith
import Derived.BigQuiet
import Derived.Deep.QuietTactic
set_option linter.unusedVariables false
set_option linter.unusedSimpArgs false
/-! Tables of Booleans in memory. -/
namespace Go.Proofs.YtdbbooibkiicnaaGreat
open Go.RowKit
def rowV (n : Nat) (r : Nat → Bool) : Array Value := ((List.range n).map fun j => Value.bool (r j)).toArray
def colV (g n : Nat) : Array Value := ((List.range n).map fun i => Value.slice (some ⟨g + 1 + i, 0, none⟩) n n).toArray
/-- A table of n rows: the rows' slices in block g, row i in block g + 1 + i. -/
def SqF (F : Fz) (g n : Nat) (m : Mx) : Prop := F g = some (.cells (colV g n) 47 (0, 0)) ∧ ∀ i, i < n → F (g + 1 + i) = some (.cells (rowV n (m i)) 4 (0, 0))
theorem size_rowV (n : Nat) (r : Nat → Bool) : (rowV n r).size = n := by simp [rowV]
theorem get_rowV {n : Nat} {r : Nat → Bool} {j : Nat} (hj : j < n) : (rowV n r)[j]? = some (.bool (r j)) := by simp [rowV, hj]
theorem get_colV {g n i : Nat} (hi : i < n) : (colV g n)[i]? = some (.slice (some ⟨g + 1 + i, 0, none⟩) n n) := by simp [colV, hi]
theorem rowV_congr {n : Nat} {r r' : Nat → Bool} (h : ∀ j, j < n → r j = r' j) : rowV n r = rowV n r' := by
  unfold rowV
  congr 1
  exact List.map_congr_left fun j hj => by rw [h j (by simpa using hj)]
theorem set_rowV {n : Nat} {r r' : Nat → Bool} {j : Nat} {b : Bool} (h : ∀ q, q < n → r' q = if q = j then b else r q) : (rowV n r).setIfInBounds j (.bool b) = rowV n r' := by
  apply Array.ext_getElem?
  intro q
  rw [Array.getElem?_setIfInBounds]
  by_cases hq : q < n
  · rw [get_rowV hq, get_rowV hq, h q hq, size_rowV]
    by_cases e : j = q
    · subst e; simp [hq]
    · rw [if_neg e, if_neg (fun x => e x.symm)]
  · have h1 : (rowV n r)[q]? = none := Array.getElem?_eq_none (by rw [size_rowV]; omega)
    have h2 : (rowV n r')[q]? = none := Array.getElem?_eq_none (by rw [size_rowV]; omega)
    rw [h1, h2, size_rowV]
    split
    · rename_i e; subst e; rw [if_neg hq]
    · rfl
theorem grown_set {w w' : World} {p : Nat} (h : w.grownBy w' (some p)) (i : Nat) (u : Value) : w.grownBy (w'.setCell ⟨p, i, none⟩ u) (some p) :=
  ⟨h.os, h.tape, h.output, by simpa using h.size, fun k hk hne => (Below.heap_setCell w' ⟨p, i, none⟩ u k (fun e => hne (by rw [e]))).trans (h.block k hk hne)⟩
/-- A table of which all is told up to a place. -/
def doneM (c : Mx) (i j : Nat) : Mx := fun p q => if p < i ∨ (p = i ∧ q < j) then c p q else false
theorem done_zero (c : Mx) : doneM c 0 0 = fun _ _ => false := by
  funext p q
  unfold doneM
  rw [if_neg (by omega)]
theorem done_row {n : Nat} (c : Mx) (i : Nat) : EqM n (doneM c i n) (doneM c (i + 1) 0) := fun p q _ hq => by
  unfold doneM
  by_cases h : p < i ∨ (p = i ∧ q < n)
  · rw [if_pos h, if_pos (by omega)]
  · rw [if_neg h, if_neg (by omega)]
theorem done_all {n : Nat} (c : Mx) : EqM n (doneM c n 0) c := fun p q hp _ => by unfold doneM; rw [if_pos (by omega)]
theorem done_step {n : Nat} (c : Mx) (i j : Nat) (p q : Nat) (_ : p < n) (_ : q < n) : doneM c i (j + 1) p q = if p = i ∧ q = j then c i j else doneM c i j p q := by
  unfold doneM
  by_cases e : p = i ∧ q = j
  · obtain ⟨rfl, rfl⟩ := e; rw [if_pos (by omega), if_pos ⟨rfl, rfl⟩]
  · rw [if_neg e]
    by_cases h : p < i ∨ (p = i ∧ q < j)
    · rw [if_pos h, if_pos (by omega)]
    · rw [if_neg h, if_neg (by omega)]
namespace SqF
variable {F F' : Fz} {g n : Nat} {m m' : Mx} {w w' : World}
theorem cle (h : SqF F g n m) (hle : ∀ b o, F b = some o → F' b = some o) : SqF F' g n m := ⟨hle _ _ h.1, fun i hi => hle _ _ (h.2 i hi)⟩
theorem mono (h : SqF F g n m) (hle : Fle w F F') : SqF F' g n m := h.cle hle.1
theorem congr (h : SqF F g n m) (e : EqM n m m') : SqF F g n m' := ⟨h.1, fun i hi => by rw [h.2 i hi, rowV_congr fun j hj => e i j hi hj]⟩
theorem lt (h : SqF (heapF w) g n m) : g < w.heap.size := (Array.getElem?_eq_some_iff.1 h.1).1
theorem row (h : SqF (heapF w) g n m) {i : Nat} (hi : i < n) : Blk w (g + 1 + i) 4 (rowV n (m i)) := h.2 i hi
theorem lt' (h : SqF (heapF w) g n m) {i : Nat} (hi : i < n) : g + 1 + i < w.heap.size := (h.row hi).lt
theorem end_ (h : SqF (heapF w) g n m) : g + n < w.heap.size := by
  cases n with
  | zero => exact h.lt
  | succ n => have := h.lt' (i := n) (by omega); omega
theorem call (h : SqF (heapF w) g n m) (hb : Below w.heap.size w w') : SqF (heapF w') g n m := ⟨(hb.block g h.lt).trans h.1, fun i hi => (hb.block _ (h.lt' hi)).trans (h.2 i hi)⟩
theorem alloc (h : SqF (heapF w) g n m) (o : Obj) : SqF (heapF (w.alloc o)) g n m := h.call (balloc _ _)
theorem below {B : Nat} (h : SqF (heapF w) g n m) (hb : Below B w w') (hg : g + n < B) : SqF (heapF w') g n m := ⟨(hb.block g (by omega)).trans h.1, fun i hi => (hb.block _ (by omega)).trans (h.2 i hi)⟩
theorem grown {q : Nat} (h : SqF (heapF w) g n m) (hb : w.grownBy w' (some q)) (hq : q < g ∨ g + n < q) : SqF (heapF w') g n m :=
  ⟨(hb.block g h.lt (by intro e; injection e with e; omega)).trans h.1, fun i hi => (hb.block _ (h.lt' hi) (by intro e; injection e with e; omega)).trans (h.2 i hi)⟩
theorem slot (h : SqF (heapF w) g n m) {i : Nat} (hi : i < n) : w.cell? ⟨g, i, none⟩ = some (.slice (some ⟨g + 1 + i, 0, none⟩) n n) := by
  have hB : Blk w g 47 (colV g n) := h.1
  rw [hB.cell, get_colV hi]
theorem val (h : SqF (heapF w) g n m) {i j : Nat} (hi : i < n) (hj : j < n) : w.cell? ⟨g + 1 + i, j, none⟩ = some (.bool (m i j)) := by rw [(h.row hi).cell, get_rowV hj]
theorem soft (h : SqF (heapF w) g n m) {i : Nat} (hi : i < n) (j : Nat) : w.frozen? ⟨g + 1 + i, j, none⟩ = false := (h.row hi).frozen j
theorem store (h : SqF (heapF w) g n m) {i : Nat} (hi : i < n) (j : Nat) (b : Bool) (e : ∀ p q, p < n → q < n → m' p q = if p = i ∧ q = j then b else m p q) : SqF (heapF (w.setCell ⟨g + 1 + i, j, none⟩ (.bool b))) g n m' := by
  have hB : Blk w g 47 (colV g n) := h.1
  refine ⟨hB.far (p := ⟨g + 1 + i, j, none⟩) (by show g ≠ g + 1 + i; omega) _, fun p hp => ?_⟩
  by_cases hpi : p = i
  · subst hpi
    have := (h.row hp).set_ j (.bool b)
    rw [set_rowV (r' := m' p) fun q hq => by rw [e p q hp hq]; simp] at this
    exact this
  · have := (h.row hp).far (p := ⟨g + 1 + i, j, none⟩) (by show g + 1 + p ≠ g + 1 + i; omega) (.bool b)
    rw [rowV_congr (r' := m' p) fun q hq => by rw [e p q hp hq, if_neg (by omega)]] at this
    exact this
theorem setRow (h : SqF (heapF w) g n m) {i : Nat} (hi : i < n) (hb : w.grownBy w' (some (g + 1 + i))) {r : Nat → Bool} (hr : Blk w' (g + 1 + i) 4 (rowV n r)) (e : ∀ p q, p < n → q < n → m' p q = if p = i then r q else m p q) : SqF (heapF w') g n m' := by
  refine ⟨(hb.block g h.lt (by intro e; injection e with e; omega)).trans h.1, fun p hp => ?_⟩
  by_cases hpi : p = i
  · subst hpi
    have h2 : heapF w' (g + 1 + p) = some (.cells (rowV n r) 4 (0, 0)) := hr
    rw [h2, rowV_congr (r' := m' p) fun q hq => by rw [e p q hp hq, if_pos rfl]]
  · rw [rowV_congr (r := m' p) (r' := m p) fun q hq => by rw [e p q hp hq, if_neg hpi]]
    exact (hb.block _ (h.lt' hp) (by intro e; injection e with e; omega)).trans (h.2 p hp)
end SqF
/-- A table in the making: the rows before i are there. -/
def colTo (g n i : Nat) : Array Value := ((List.range n).map fun q => if q < i then Value.slice (some ⟨g + 1 + q, 0, none⟩) n n else .slice none 0 0).toArray
theorem colTo_zero (g n : Nat) : colTo g n 0 = zeros (.slice none 0 0) n := by
  unfold colTo zeros
  congr 1
  apply List.ext_getElem (by simp)
  intro i h1 h2
  simp
theorem colTo_all (g n : Nat) : colTo g n n = colV g n := by
  unfold colTo colV
  congr 1
  exact List.map_congr_left fun q hq => by rw [if_pos (by simpa using hq)]
theorem size_colTo (g n i : Nat) : (colTo g n i).size = n := by simp [colTo]
theorem get_colTo {g n i q : Nat} (hq : q < n) : (colTo g n i)[q]? = some (if q < i then Value.slice (some ⟨g + 1 + q, 0, none⟩) n n else .slice none 0 0) := by simp [colTo, hq]
theorem set_colTo {g n i : Nat} (hi : i < n) : (colTo g n i).setIfInBounds i (.slice (some ⟨g + 1 + i, 0, none⟩) n n) = colTo g n (i + 1) := by
  apply Array.ext_getElem?
  intro q
  rw [Array.getElem?_setIfInBounds]
  by_cases hq : q < n
  · rw [get_colTo hq, get_colTo hq, size_colTo]
    by_cases e : i = q
    · subst e; simp [hq]
    · rw [if_neg e]
      congr 1
      by_cases h : q < i
      · rw [if_pos h, if_pos (by omega)]
      · rw [if_neg h, if_neg (by omega)]
  · have h1 : (colTo g n i)[q]? = none := Array.getElem?_eq_none (by rw [size_colTo]; omega)
    have h2 : (colTo g n (i + 1))[q]? = none := Array.getElem?_eq_none (by rw [size_colTo]; omega)
    rw [h1, h2, size_colTo]
    split
    · rename_i e; subst e; exact absurd hi hq
    · rfl
theorem zeros_rowV (n : Nat) : zeros (.bool false) n = rowV n fun _ => false := by
  unfold zeros rowV
  congr 1
  apply List.ext_getElem (by simp)
  intro i h1 h2
  simp
theorem makeB (n : Nat) (hn : n ≤ 1000000) (w : World) : (Instr.makeSlice 47 (.int .i64 (n : Int)) (.int .i64 (n : Int))).run Tryz.prog w = .ok (.slice (some ⟨w.heap.size, 0, none⟩) n n) (w.alloc (.cells (rowV n fun _ => false) 4)) := by
  rw [run_make1 47 4 (.bool false) 1 Tryz.underlying47 (by kernel_rfl) rfl n (by omega) (by omega) w, zeros_rowV]
theorem makeBB (n : Nat) (hn : n ≤ 1000000) (w : World) : (Instr.makeSlice 79 (.int .i64 (n : Int)) (.int .i64 (n : Int))).run Tryz.prog w = .ok (.slice (some ⟨w.heap.size, 0, none⟩) n n) (w.alloc (.cells (colTo w.heap.size n 0) 47)) := by
  rw [run_make1 79 47 (.slice none 0 0) 24 Tryz.underlying79 (by kernel_rfl) rfl n (by omega) (by omega) w, colTo_zero]
theorem makeSq (n : Nat) (hn : n ≤ 1000000) (w : World) : (Instr.makeSlice 136 (.int .i64 (n : Int)) (.int .i64 (n : Int))).run Tryz.prog w = .ok (.slice (some ⟨w.heap.size, 0, none⟩) n n) (w.alloc (.cells (colTo w.heap.size n 0) 47)) := by
  rw [run_make1 136 47 (.slice none 0 0) 24 Tryz.underlying136 (by kernel_rfl) rfl n (by omega) (by omega) w, colTo_zero]
end Go.Proofs.YtdbbooibkiicnaaGreat
/-! The walks of the functions on tables of Booleans. -/
namespace Go.Proofs.YtdbbooibkiicnaaGreat
open Go.RowKit
theorem empty_w (n : Nat) (hn : n ≤ 1000) (w : World) :
    Calls Tryz.prog 139 #[.int .i64 n] w fun e w' => e = .returned (.slice (some ⟨w.heap.size, 0, none⟩) n n) ∧ SqF (heapF w') w.heap.size n (fun _ _ => false) ∧ Below w.heap.size w w' := by
  have hmk := makeSq n (by omega)
  have hmb := makeB n (by omega)
  go_enter Tryz.func139, Tryz.ntmps139
  go_wp2_with fail
  go_loopw [9] (fun i wr => ∃ k : Nat, k ≤ n ∧ i = .int .i64 k ∧ wr.heap.size = w.heap.size + 1 + k ∧ Blk wr w.heap.size 47 (colTo w.heap.size n k) ∧ (∀ q, q < k → Blk wr (w.heap.size + 1 + q) 4 (rowV n fun _ => false)) ∧ Below w.heap.size w wr) (fun i _ => n - (intOf i).toNat)
  case atStart => exact ⟨0, Nat.zero_le _, rfl, by simp, Blk.new _ _ _, fun q hq => absurd hq (by omega), balloc _ _⟩
  case round =>
    obtain ⟨k, hk, rfl, hz, hB, hR, hbl⟩ := hrel
    by_cases hlt : k < n
    · have hltI : (k : Int) < (n : Int) := by omega
      have hc : (wr.alloc (.cells (rowV n fun _ => false) 4)).cell? ⟨w.heap.size, k, none⟩ = some (.slice none 0 0) := by rw [(hB.alloc _).cell, get_colTo hlt, if_neg (by omega)]
      have hfz := (hB.alloc (.cells (rowV n fun _ => false) 4)).frozen k
      have hst : ∀ u, Below w.heap.size w ((wr.alloc (.cells (rowV n fun _ => false) 4)).setCell ⟨w.heap.size, k, none⟩ u) := fun u => (hbl.alloc (by omega) _).setCell (p := ⟨w.heap.size, k, none⟩) (Nat.le_refl _) u
      go_wp2_with fail
      go_roundw
      case rel =>
        refine ⟨k + 1, by omega, by go_num, by simp [hz]; omega, ?_, ?_, hst _⟩
        · rw [← set_colTo hlt, ← hz]
          exact (hB.alloc _).set_ _ _
        · intro q hq
          by_cases e : q = k
          · subst e
            rw [← hz]
            exact (Blk.new wr _ _).far (p := ⟨w.heap.size, q, none⟩) (by show wr.heap.size ≠ w.heap.size; omega) _
          · exact ((hR q (by omega)).alloc _).far (p := ⟨w.heap.size, k, none⟩) (by show w.heap.size + 1 + q ≠ w.heap.size; omega) _
      case measure => simp [intOf]; omega
    · obtain rfl : k = n := by omega
      have hdec : decide ((k : Int) < (k : Int)) = false := decide_eq_false (by omega)
      go_wp2_with fail
      go_ret
      rw [colTo_all] at hB
      exact ⟨rfl, ⟨hB, fun i hi => hR i hi⟩, hbl⟩
theorem rsquare_w (n : Nat) (hn : n ≤ 1000) (w : World) :
    Calls Tryz.prog 150 #[.int .i64 n] w fun e w' => e = .returned (.slice (some ⟨w.heap.size, 0, none⟩) n n) ∧ SqF (heapF w') w.heap.size n (fun _ _ => false) ∧ Below w.heap.size w w' := by
  have hmk := makeBB n (by omega)
  have hmb := makeB n (by omega)
  go_enter Tryz.func150, Tryz.ntmps150
  go_wp2_with fail
  go_loopw [8] (fun i wr => ∃ k : Nat, k ≤ n ∧ i = .int .i64 k ∧ wr.heap.size = w.heap.size + 1 + k ∧ Blk wr w.heap.size 47 (colTo w.heap.size n k) ∧ (∀ q, q < k → Blk wr (w.heap.size + 1 + q) 4 (rowV n fun _ => false)) ∧ Below w.heap.size w wr) (fun i _ => n - (intOf i).toNat)
  case atStart => exact ⟨0, Nat.zero_le _, rfl, by simp, Blk.new _ _ _, fun q hq => absurd hq (by omega), balloc _ _⟩
  case round =>
    obtain ⟨k, hk, rfl, hz, hB, hR, hbl⟩ := hrel
    by_cases hlt : k < n
    · have hltI : (k : Int) < (n : Int) := by omega
      have hc : (wr.alloc (.cells (rowV n fun _ => false) 4)).cell? ⟨w.heap.size, k, none⟩ = some (.slice none 0 0) := by rw [(hB.alloc _).cell, get_colTo hlt, if_neg (by omega)]
      have hfz := (hB.alloc (.cells (rowV n fun _ => false) 4)).frozen k
      have hst : ∀ u, Below w.heap.size w ((wr.alloc (.cells (rowV n fun _ => false) 4)).setCell ⟨w.heap.size, k, none⟩ u) := fun u => (hbl.alloc (by omega) _).setCell (p := ⟨w.heap.size, k, none⟩) (Nat.le_refl _) u
      go_wp2_with fail
      go_roundw
      case rel =>
        refine ⟨k + 1, by omega, by go_num, by simp [hz]; omega, ?_, ?_, hst _⟩
        · rw [← set_colTo hlt, ← hz]
          exact (hB.alloc _).set_ _ _
        · intro q hq
          by_cases e : q = k
          · subst e
            rw [← hz]
            exact (Blk.new wr _ _).far (p := ⟨w.heap.size, q, none⟩) (by show wr.heap.size ≠ w.heap.size; omega) _
          · exact ((hR q (by omega)).alloc _).far (p := ⟨w.heap.size, k, none⟩) (by show w.heap.size + 1 + q ≠ w.heap.size; omega) _
      case measure => simp [intOf]; omega
    · obtain rfl : k = n := by omega
      have hdec : decide ((k : Int) < (k : Int)) = false := decide_eq_false (by omega)
      go_wp2_with fail
      go_ret
      rw [colTo_all] at hB
      exact ⟨rfl, ⟨hB, fun i hi => hR i hi⟩, hbl⟩
theorem row_w {w : World} {n p q : Nat} {m r : Nat → Bool} (hn : n ≤ 1000) (hpq : p ≠ q) (hp : Blk w p 4 (rowV n m)) (hq : Blk w q 4 (rowV n r)) :
    Calls Tryz.prog 156 #[.slice (some ⟨p, 0, none⟩) n n, .slice (some ⟨q, 0, none⟩) n n] w fun e w' => e = .returned (.tuple #[]) ∧ w.grownBy w' (some p) ∧ w'.heap.size = w.heap.size ∧ Blk w' p 4 (rowV n fun j => m j || r j) := by
  go_enter Tryz.func156, Tryz.ntmps156
  go_wp2_with fail
  go_loopw [8] (fun i wr => ∃ k : Nat, k ≤ n ∧ i = .int .i64 k ∧ w.grownBy wr (some p) ∧ wr.heap.size = w.heap.size ∧ Blk wr p 4 (rowV n fun j => if j < k then m j || r j else m j)) (fun i _ => n - (intOf i).toNat)
  case atStart => exact ⟨0, Nat.zero_le _, rfl, ⟨rfl, rfl, rfl, Nat.le_refl _, fun _ _ _ => rfl⟩, rfl, by simpa using hp⟩
  case round =>
    obtain ⟨k, hk, rfl, hg, hz, hB⟩ := hrel
    by_cases hlt : k < n
    · have hltI : (k : Int) < (n : Int) := by omega
      have hQ := hq.grown hg (by intro e; injection e with e; exact hpq e.symm)
      have c1 : wr.cell? ⟨q, k, none⟩ = some (.bool (r k)) := by rw [hQ.cell, get_rowV hlt]
      have c2 : wr.cell? ⟨p, k, none⟩ = some (.bool (m k)) := by rw [hB.cell, get_rowV hlt]; simp
      have hfz := hB.frozen k
      have hg2 : ∀ u, w.grownBy (wr.setCell ⟨p, k, none⟩ u) (some p) := fun u => grown_set hg k u
      have hst : Blk (wr.setCell ⟨p, k, none⟩ (.bool (m k || r k))) p 4 (rowV n fun j => if j < k + 1 then m j || r j else m j) := by
        rw [← set_rowV (j := k) (b := m k || r k)]
        · exact hB.set_ _ _
        · intro x hx
          by_cases e : x = k
          · subst e; simp
          · rw [if_neg e]
            by_cases h : x < k
            · rw [if_pos (by omega), if_pos h]
            · rw [if_neg (by omega), if_neg h]
      have HST := Lib.hid hst
      clear hst hQ
      cases hmk : m k
      · rw [hmk] at c2 HST
        rw [Bool.false_or] at HST
        go_wp2_with fail
        go_roundw
        case rel => exact ⟨k + 1, by omega, by go_num, hg2 _, by simpa using hz, HST.out⟩
        case measure => simp [intOf]; omega
      · rw [hmk] at c2 HST
        rw [Bool.true_or] at HST
        go_wp2_with fail
        go_roundw
        case rel => exact ⟨k + 1, by omega, by go_num, hg2 _, by simpa using hz, HST.out⟩
        case measure => simp [intOf]; omega
    · obtain rfl : k = n := by omega
      have hdec : decide ((k : Int) < (k : Int)) = false := decide_eq_false (by omega)
      go_wp2_with fail
      go_end0
      refine ⟨rfl, hg, hz, ?_⟩
      rw [rowV_congr (r' := fun j => if j < k then m j || r j else m j) fun j hj => by rw [if_pos hj]]
      exact hB
theorem both_w {w : World} {n ga gb : Nat} {a b : Mx} (hn : n ≤ 1000) (ha : SqF (heapF w) ga n a) (hb : SqF (heapF w) gb n b) :
    Calls Tryz.prog 141 #[.slice (some ⟨ga, 0, none⟩) n n, .slice (some ⟨gb, 0, none⟩) n n] w fun e w' => ∃ g, e = .returned (.slice (some ⟨g, 0, none⟩) n n) ∧ w.heap.size ≤ g ∧ SqF (heapF w') g n (orM a b) ∧ Below w.heap.size w w' := by
  have hE := Lib.hid (empty_w n hn w)
  go_enter Tryz.func141, Tryz.ntmps141
  go_wp2_with (go_at_call 139; refine hE.out.mono ?_; rintro e w1 ⟨rfl, hS1, hb1⟩)
  have hz1 := hS1.lt
  rw [← done_zero (orM a b)] at hS1
  go_loopw [13] (fun i wr => ∃ k : Nat, k ≤ n ∧ i = .int .i64 k ∧ SqF (heapF wr) w.heap.size n (doneM (orM a b) k 0) ∧ Below w.heap.size w wr) (fun i _ => n - (intOf i).toNat)
  case atStart => exact ⟨0, Nat.zero_le _, rfl, hS1, hb1⟩
  case round =>
    obtain ⟨k, hk, rfl, hS, hbl⟩ := hrel
    by_cases hlt : k < n
    · have hltI : (k : Int) < (n : Int) := by omega
      go_wp2_with fail
      go_loopw [18] (fun j wx => ∃ l : Nat, l ≤ n ∧ j = .int .i64 l ∧ SqF (heapF wx) w.heap.size n (doneM (orM a b) k l) ∧ Below w.heap.size w wx) (fun j _ => n - (intOf j).toNat)
      case atStart => exact ⟨0, Nat.zero_le _, rfl, hS, hbl⟩
      case round =>
        obtain ⟨l, hl, rfl, hSx, hbx⟩ := hrel
        by_cases hlx : l < n
        · have hlxI : (l : Int) < (n : Int) := by omega
          have ca := ha.call hbx
          have cb := hb.call hbx
          have a1 := ca.slot hlt
          have a2 := ca.val hlt hlx
          have b1 := cb.slot hlt
          have b2 := cb.val hlt hlx
          have o1 := hSx.slot hlt
          have o2 := hSx.val hlt hlx
          have o3 := hSx.soft hlt l
          have hst := hSx.store (m' := doneM (orM a b) k (l + 1)) hlt l (a k l || b k l) (done_step _ _ _)
          have hbs : ∀ u, Below w.heap.size w (wr.setCell ⟨w.heap.size + 1 + k, l, none⟩ u) := fun u => hbx.setCell (p := ⟨w.heap.size + 1 + k, l, none⟩) (by show w.heap.size ≤ w.heap.size + 1 + k; omega) u
          have HST := Lib.hid hst
          clear hst ca cb
          cases hak : a k l
          · rw [hak] at a2 HST
            rw [Bool.false_or] at HST
            go_wp2_with fail
            go_region
            go_wp2_with fail
            go_roundw
            case rel => exact ⟨l + 1, by omega, by go_num, HST.out, by first | exact (hbs _).drew | exact hbx.drew.setCell (p := ⟨w.heap.size + 1 + k, l, none⟩) (by show w.heap.size ≤ w.heap.size + 1 + k; omega) _⟩
            case measure => simp [intOf]; omega
          · rw [hak] at a2 HST
            rw [Bool.true_or] at HST
            go_wp2_with fail
            go_region
            go_wp2_with fail
            go_roundw
            case rel => exact ⟨l + 1, by omega, by go_num, HST.out, by first | exact (hbs _).drew | exact hbx.drew.setCell (p := ⟨w.heap.size + 1 + k, l, none⟩) (by show w.heap.size ≤ w.heap.size + 1 + k; omega) _⟩
            case measure => simp [intOf]; omega
        · obtain rfl : l = n := by omega
          have hdec : decide ((l : Int) < (l : Int)) = false := decide_eq_false (by omega)
          go_wp2_with fail
          go_roundw
          case rel => exact ⟨k + 1, by omega, by go_num, hSx.congr (done_row _ _), hbx⟩
          case measure => simp [intOf]; omega
    · obtain rfl : k = n := by omega
      have hdec : decide ((k : Int) < (k : Int)) = false := decide_eq_false (by omega)
      go_wp2_with fail
      go_ret
      exact ⟨w.heap.size, rfl, Nat.le_refl _, hS.congr (done_all _), hbl⟩
/-- A product in the making: the rows before i are there, of row i the ways over the points before k. -/
def partM (n : Nat) (a b : Mx) (i k : Nat) : Mx := fun p q => if p < i then prodM n a b p q else if p = i then (List.range k).any (fun x => a i x && b x q) else false
theorem part_zero (n : Nat) (a b : Mx) : (fun _ _ => false : Mx) = partM n a b 0 0 := by
  funext p q
  unfold partM
  rw [if_neg (by omega)]
  simp
theorem part_row {n : Nat} (a b : Mx) (i : Nat) : EqM n (partM n a b i n) (partM n a b (i + 1) 0) := fun p q _ _ => by
  unfold partM
  by_cases h : p < i
  · rw [if_pos h, if_pos (by omega)]
  · by_cases e : p = i
    · subst e; rw [if_neg h, if_pos rfl, if_pos (by omega)]; rfl
    · rw [if_neg h, if_neg e, if_neg (by omega)]; simp
theorem part_all {n : Nat} (a b : Mx) : EqM n (partM n a b n 0) (prodM n a b) := fun p q hp _ => by unfold partM; rw [if_pos hp]
theorem part_skip {n : Nat} {a b : Mx} {i k : Nat} (h : a i k = false) : EqM n (partM n a b i k) (partM n a b i (k + 1)) := fun p q _ _ => by
  unfold partM
  rw [List.range_succ, List.any_append]
  simp [h]
theorem part_step {n : Nat} {a b : Mx} {i k : Nat} (h : a i k = true) (p q : Nat) : partM n a b i (k + 1) p q = if p = i then (partM n a b i k i q || b k q) else partM n a b i k p q := by
  unfold partM
  rw [List.range_succ, List.any_append]
  by_cases e : p = i
  · subst e; simp [h]
  · simp [e]
theorem product_w {w : World} {n ga gb : Nat} {a b : Mx} (hn : n ≤ 1000) (ha : SqF (heapF w) ga n a) (hb : SqF (heapF w) gb n b) :
    Calls Tryz.prog 142 #[.slice (some ⟨ga, 0, none⟩) n n, .slice (some ⟨gb, 0, none⟩) n n] w fun e w' => ∃ g, e = .returned (.slice (some ⟨g, 0, none⟩) n n) ∧ w.heap.size ≤ g ∧ SqF (heapF w') g n (prodM n a b) ∧ Below w.heap.size w w' := by
  have hE := Lib.hid (empty_w n hn w)
  go_enter Tryz.func142, Tryz.ntmps142
  go_wp2_with (go_at_call 139; refine hE.out.mono ?_; rintro e w1 ⟨rfl, hS1, hb1⟩)
  have hz1 := hS1.lt
  rw [part_zero n a b] at hS1
  go_loopw [14] (fun i wr => ∃ k : Nat, k ≤ n ∧ i = .int .i64 k ∧ SqF (heapF wr) w.heap.size n (partM n a b k 0) ∧ Below w.heap.size w wr) (fun i _ => n - (intOf i).toNat)
  case atStart => exact ⟨0, Nat.zero_le _, rfl, hS1, hb1⟩
  case round =>
    obtain ⟨k, hk, rfl, hS, hbl⟩ := hrel
    by_cases hlt : k < n
    · have hltI : (k : Int) < (n : Int) := by omega
      have c1 := (ha.call hbl).slot hlt
      go_wp2_with fail
      go_loopw [22] (fun j wx => ∃ l : Nat, l ≤ n ∧ j = .int .i64 l ∧ SqF (heapF wx) w.heap.size n (partM n a b k l) ∧ Below w.heap.size w wx) (fun j _ => n - (intOf j).toNat)
      case atStart => exact ⟨0, Nat.zero_le _, rfl, hS, hbl⟩
      case round =>
        obtain ⟨l, hl, rfl, hSx, hbx⟩ := hrel
        clear c1
        by_cases hlx : l < n
        · have hlxI : (l : Int) < (n : Int) := by omega
          have ca := ha.call hbx
          have cb := hb.call hbx
          have a2 := ca.val hlt hlx
          have b1 := cb.slot hlx
          have o1 := hSx.slot hlt
          have hgb := cb.lt' hlx
          have hgb2 := hb.lt' hlx
          have hrow := fun (X : World) (h1 : Blk X (w.heap.size + 1 + k) 4 (rowV n (partM n a b k l k))) (h2 : Blk X (gb + 1 + l) 4 (rowV n (b l))) => row_w (w := X) hn (by omega) h1 h2
          have HR := Lib.hid hrow
          have HX := Lib.hid hSx
          have HC := Lib.hid cb
          clear hrow ca cb
          cases hak : a k l
          · rw [hak] at a2
            have hst := hSx.congr (part_skip (b := b) hak)
            go_wp2_with fail
            go_roundw
            case rel => exact ⟨l + 1, by omega, by go_num, hst, hbx⟩
            case measure => simp [intOf]; omega
          · rw [hak] at a2
            have HAK := Lib.hid hak
            clear hak
            go_wp2_with fail
            go_region_with (go_at_call 156; refine (HR.out wr.drew (HX.out.row hlt) (HC.out.row hlx)).mono ?_; rintro e w2 ⟨rfl, hg2, hz2, hB2⟩)
            all_goals
              go_wp2_with fail
              go_roundw
              case rel => exact ⟨l + 1, by omega, by go_num, SqF.setRow (w := wr.drew) hSx hlt hg2 hB2 fun p q _ _ => part_step HAK.out p q, hbx.drew.grown hg2 (by have := hbx.size; simpa using this) fun g e => by injection e with e; omega⟩
              case measure => simp [intOf]; omega
        · obtain rfl : l = n := by omega
          have hdec : decide ((l : Int) < (l : Int)) = false := decide_eq_false (by omega)
          go_wp2_with fail
          go_roundw
          case rel => exact ⟨k + 1, by omega, by go_num, hSx.congr (part_row _ _ _), hbx⟩
          case measure => simp [intOf]; omega
    · obtain rfl : k = n := by omega
      have hdec : decide ((k : Int) < (k : Int)) = false := decide_eq_false (by omega)
      go_wp2_with fail
      go_ret
      exact ⟨w.heap.size, rfl, Nat.le_refl _, hS.congr (part_all _ _), hbl⟩
end Go.Proofs.YtdbbooibkiicnaaGreat
/-! The walk of paths.closure. -/
namespace Go.Proofs.YtdbbooibkiicnaaGreat
open Go.RowKit
def fromM (n : Nat) (a : Mx) (k : Nat) : Mx := fun p q => if k ≤ p then starM n a p q else false
def inM (n : Nat) (a : Mx) (i j : Nat) : Mx := fun p q => if i < p then starM n a p q else if p = i then (decide (i = q) || (List.range j).any fun x => decide (i < x) && a i x && starM n a x q) else false
theorem from_all (n : Nat) (a : Mx) : EqM n (fun _ _ => false) (fromM n a n) := fun p q hp _ => by unfold fromM; rw [if_neg (by omega)]
theorem from_zero (n : Nat) (a : Mx) : fromM n a 0 = starM n a := by funext p q; unfold fromM; rw [if_pos (Nat.zero_le _)]
theorem in_start (n : Nat) (a : Mx) (i : Nat) (p q : Nat) : inM n a i (i + 1) p q = if p = i ∧ q = i then true else fromM n a (i + 1) p q := by
  unfold inM fromM
  by_cases h : i < p
  · rw [if_pos h, if_neg (by omega), if_pos (by omega)]
  · rw [if_neg h]
    by_cases e : p = i
    · subst e
      have : (List.range (p + 1)).any (fun x => decide (p < x) && a p x && starM n a x q) = false := by
        rw [List.any_eq_false]
        intro x hx
        simp at hx
        simp [show ¬ p < x by omega]
      rw [if_pos rfl, this, Bool.or_false]
      by_cases e2 : q = p
      · subst e2; simp
      · rw [if_neg (by omega), if_neg (by omega)]; simp; omega
    · rw [if_neg e, if_neg (by omega), if_neg (by omega)]
theorem in_end {n : Nat} {a : Mx} (hf : FwM a) (i : Nat) (hi : i < n) : EqM n (inM n a i n) (fromM n a i) := fun p q hp hq => by
  unfold inM fromM
  by_cases h : i < p
  · rw [if_pos h, if_pos (by omega)]
  · rw [if_neg h]
    by_cases e : p = i
    · subst e; rw [if_pos rfl, if_pos (Nat.le_refl _), star_row hf hi hq]
    · rw [if_neg e, if_neg (by omega)]
theorem in_skip {n : Nat} {a : Mx} {i j : Nat} (h : a i j = false) : EqM n (inM n a i j) (inM n a i (j + 1)) := fun p q _ _ => by
  unfold inM
  rw [List.range_succ, List.any_append]
  simp [h]
theorem in_step {n : Nat} {a : Mx} {i j : Nat} (hij : i < j) (h : a i j = true) (p q : Nat) : inM n a i (j + 1) p q = if p = i then (inM n a i j i q || inM n a i j j q) else inM n a i j p q := by
  unfold inM
  rw [List.range_succ, List.any_append]
  by_cases e : p = i
  · subst e; simp [h, hij, Bool.or_assoc]
  · simp [e]
set_option maxHeartbeats 1000000 in
theorem closure_w {w : World} {n ga : Nat} {a : Mx} (hn : n ≤ 1000) (hf : FwM a) (ha : SqF (heapF w) ga n a) :
    Calls Tryz.prog 143 #[.slice (some ⟨ga, 0, none⟩) n n] w fun e w' => ∃ g, e = .returned (.slice (some ⟨g, 0, none⟩) n n) ∧ w.heap.size ≤ g ∧ SqF (heapF w') g n (starM n a) ∧ Below w.heap.size w w' := by
  have hE := Lib.hid (empty_w n hn w)
  go_enter Tryz.func143, Tryz.ntmps143
  go_wp2_with (go_at_call 139; refine hE.out.mono ?_; rintro e w1 ⟨rfl, hS1, hb1⟩)
  have hz1 := hS1.lt
  have hS1 := hS1.congr (from_all n a)
  go_loopw [4] (fun i wr => ∃ k : Nat, k ≤ n ∧ i = (if k = 0 then .int .i64 (-1) else .int .i64 ((k - 1 : Nat) : Int)) ∧ SqF (heapF wr) w.heap.size n (fromM n a k) ∧ Below w.heap.size w wr) (fun i _ => (intOf i + 1).toNat)
  case atStart =>
    refine ⟨n, Nat.le_refl _, ?_, hS1, hb1⟩
    by_cases h0 : n = 0
    · subst h0; rfl
    · rw [if_neg h0]
      congr 1
      omega
  case round =>
    obtain ⟨k, hk, hv, hS, hbl⟩ := hrel
    rcases k with _ | i
    · rw [if_pos rfl] at hv
      subst hv
      go_wp2_with fail
      go_ret
      rw [from_zero] at hS
      exact ⟨w.heap.size, rfl, Nat.le_refl _, hS, hbl⟩
    · rw [if_neg (by omega), Nat.add_sub_cancel] at hv
      subst hv
      have hlt : i < n := by omega
      have hltI : (i : Int) < (n : Int) := by omega
      have o1 := hS.slot hlt
      have o2 := hS.val hlt hlt
      have o3 := hS.soft hlt i
      have hst := Lib.hid (hS.store (m' := inM n a i (i + 1)) hlt i true fun p q _ _ => in_start n a i p q)
      have hbs := hbl.setCell (p := ⟨w.heap.size + 1 + i, i, none⟩) (by show w.heap.size ≤ w.heap.size + 1 + i; omega) (.bool true)
      go_wp2_with fail
      go_loopw [5] (fun j wx => ∃ l : Nat, l ≤ n ∧ i < l ∧ j = .int .i64 l ∧ SqF (heapF wx) w.heap.size n (inM n a i l) ∧ Below w.heap.size w wx) (fun j _ => n - (intOf j).toNat)
      case atStart => exact ⟨i + 1, by omega, by omega, by go_num, hst.out, hbs⟩
      case round =>
        clear o1 o2 o3
        obtain ⟨l, hl, hil, rfl, hSx, hbx⟩ := hrel
        by_cases hlx : l < n
        · have hlxI : (l : Int) < (n : Int) := by omega
          have ca := ha.call hbx
          have a1 := ca.slot hlt
          have a2 := ca.val hlt hlx
          have o1 := hSx.slot hlt
          have o2 := hSx.slot hlx
          have hrow := fun (X : World) (h1 : Blk X (w.heap.size + 1 + i) 4 (rowV n (inM n a i l i))) (h2 : Blk X (w.heap.size + 1 + l) 4 (rowV n (inM n a i l l))) => row_w (w := X) hn (by omega) h1 h2
          have HR := Lib.hid hrow
          have HX := Lib.hid hSx
          clear hrow ca
          cases hak : a i l
          · rw [hak] at a2
            have hst2 := hSx.congr (in_skip hak)
            go_wp2_with fail
            go_roundw
            case rel => exact ⟨l + 1, by omega, by omega, by go_num, hst2, hbx⟩
            case measure => simp [intOf] <;> omega
          · rw [hak] at a2
            have HAK := Lib.hid hak
            clear hak
            go_wp2_with fail
            go_region_with (go_at_call 156; refine (HR.out wr.drew (HX.out.row hlt) (HX.out.row hlx)).mono ?_; rintro e w2 ⟨rfl, hg2, hz2, hB2⟩)
            all_goals
              go_wp2_with fail
              go_roundw
              case rel => exact ⟨l + 1, by omega, by omega, by go_num, SqF.setRow (w := wr.drew) hSx hlt hg2 hB2 fun p q _ _ => in_step hil HAK.out p q, hbx.drew.grown hg2 (by have := hbx.size; simpa using this) fun g e => by injection e with e; omega⟩
              case measure => simp [intOf] <;> omega
        · obtain rfl : l = n := by omega
          have hdec : decide ((l : Int) < (l : Int)) = false := decide_eq_false (by omega)
          have hS2 := hSx.congr (in_end hf i hlt)
          go_wp2_with fail
          go_roundw
          case rel =>
            refine ⟨i, by omega, ?_, hS2, hbx⟩
            by_cases h0 : i = 0
            · subst h0; rfl
            · rw [if_neg h0]
              congr 1
              omega
          case measure => simp [intOf] <;> omega
end Go.Proofs.YtdbbooibkiicnaaGreat
/-! The walk of the reference's product. -/
namespace Go.Proofs.YtdbbooibkiicnaaGreat
open Go.RowKit
def colM (n : Nat) (a b : Mx) (i k l : Nat) : Mx := fun p q => if p = i ∧ q < l then partM n a b i (k + 1) p q else partM n a b i k p q
theorem col_zero (n : Nat) (a b : Mx) (i k : Nat) : colM n a b i k 0 = partM n a b i k := by funext p q; unfold colM; rw [if_neg (by omega)]
theorem col_all {n : Nat} (a b : Mx) (i k : Nat) : EqM n (colM n a b i k n) (partM n a b i (k + 1)) := fun p q _ hq => by
  unfold colM
  by_cases e : p = i
  · subst e; rw [if_pos ⟨rfl, hq⟩]
  · rw [if_neg (fun h => e h.1)]
    unfold partM
    simp [e]
theorem col_val (n : Nat) (a b : Mx) (i k l : Nat) : partM n a b i (k + 1) i l = (colM n a b i k l i l || (a i k && b k l)) := by
  unfold colM
  rw [if_neg (by omega)]
  unfold partM
  rw [if_neg (by omega), if_pos rfl, if_neg (by omega), if_pos rfl, List.range_succ, List.any_append]
  simp
theorem col_step {n : Nat} (a b : Mx) (i k l : Nat) (p q : Nat) (_ : p < n) (_ : q < n) : colM n a b i k (l + 1) p q = if p = i ∧ q = l then partM n a b i (k + 1) i l else colM n a b i k l p q := by
  unfold colM
  by_cases e : p = i ∧ q = l
  · obtain ⟨rfl, rfl⟩ := e; rw [if_pos ⟨rfl, by omega⟩, if_pos ⟨rfl, rfl⟩]
  · rw [if_neg e]
    by_cases h : p = i ∧ q < l
    · rw [if_pos h, if_pos ⟨h.1, by omega⟩]
    · rw [if_neg h, if_neg (by omega)]
set_option maxRecDepth 100000 in
set_option maxHeartbeats 2000000 in
theorem rproduct_w {w : World} {n ga gb : Nat} {a b : Mx} (hn : n ≤ 1000) (ha : SqF (heapF w) ga n a) (hb : SqF (heapF w) gb n b) :
    Calls Tryz.prog 153 #[.slice (some ⟨ga, 0, none⟩) n n, .slice (some ⟨gb, 0, none⟩) n n] w fun e w' => ∃ g, e = .returned (.slice (some ⟨g, 0, none⟩) n n) ∧ w.heap.size ≤ g ∧ SqF (heapF w') g n (prodM n a b) ∧ Below w.heap.size w w' := by
  have hE := Lib.hid (rsquare_w n hn w)
  go_enter Tryz.func153, Tryz.ntmps153
  go_wp2_with (go_at_call 150; refine hE.out.mono ?_; rintro e w1 ⟨rfl, hS1, hb1⟩)
  have hz1 := hS1.lt
  rw [part_zero n a b] at hS1
  go_loopw [15] (fun i wr => ∃ k : Nat, k ≤ n ∧ i = .int .i64 k ∧ SqF (heapF wr) w.heap.size n (partM n a b k 0) ∧ Below w.heap.size w wr) (fun i _ => n - (intOf i).toNat)
  case atStart => exact ⟨0, Nat.zero_le _, rfl, hS1, hb1⟩
  case round =>
    obtain ⟨i, hk, rfl, hS, hbl⟩ := hrel
    by_cases hlt : i < n
    · have hltI : (i : Int) < (n : Int) := by omega
      go_wp2_with fail
      go_loopw [19] (fun j wx => ∃ k : Nat, k ≤ n ∧ j = .int .i64 k ∧ SqF (heapF wx) w.heap.size n (partM n a b i k) ∧ Below w.heap.size w wx) (fun j _ => n - (intOf j).toNat)
      case atStart => exact ⟨0, Nat.zero_le _, rfl, hS, hbl⟩
      case round =>
        obtain ⟨k, hl, rfl, hSx, hbx⟩ := hrel
        by_cases hlx : k < n
        · have hlxI : (k : Int) < (n : Int) := by omega
          rw [← col_zero] at hSx
          go_wp2_with fail
          go_loopw [23] (fun j wx => ∃ l : Nat, l ≤ n ∧ j = .int .i64 l ∧ SqF (heapF wx) w.heap.size n (colM n a b i k l) ∧ Below w.heap.size w wx) (fun j _ => n - (intOf j).toNat)
          case atStart => exact ⟨0, Nat.zero_le _, rfl, hSx, hbx⟩
          case round =>
            obtain ⟨l, hl3, rfl, hSy, hby⟩ := hrel
            by_cases hly : l < n
            · have hlyI : (l : Int) < (n : Int) := by omega
              have ca := ha.call hby
              have cb := hb.call hby
              have a1 := ca.slot hlt
              have a2 := ca.val hlt hlx
              have b1 := cb.slot hlx
              have b2 := cb.val hlx hly
              have o1 := hSy.slot hlt
              have o2 := hSy.val hlt hly
              have o3 := hSy.soft hlt l
              have hst := hSy.store (m' := colM n a b i k (l + 1)) hlt l _ (col_step a b i k l)
              rw [col_val] at hst
              have hbs := fun u => hby.setCell (p := ⟨w.heap.size + 1 + i, l, none⟩) (by show w.heap.size ≤ w.heap.size + 1 + i; omega) u
              have hbs2 := fun u => hby.drew.setCell (p := ⟨w.heap.size + 1 + i, l, none⟩) (by show w.heap.size ≤ w.heap.size + 1 + i; omega) u
              have HST := Lib.hid hst
              clear hst ca cb
              cases hm : colM n a b i k l i l
              · rw [hm] at o2 HST
                rw [Bool.false_or] at HST
                cases hak : a i k
                · rw [hak] at a2 HST
                  rw [Bool.false_and] at HST
                  go_wp2_with fail
                  go_region
                  go_wp2_with fail
                  go_roundw
                  case rel => exact ⟨l + 1, by omega, by go_num, HST.out, by first | exact (hbs _).drew | exact hbs2 _⟩
                  case measure => simp [intOf]; omega
                · rw [hak] at a2 HST
                  rw [Bool.true_and] at HST
                  go_wp2_with fail
                  go_region
                  go_wp2_with fail
                  go_roundw
                  case rel => exact ⟨l + 1, by omega, by go_num, HST.out, by first | exact (hbs _).drew | exact hbs2 _⟩
                  case measure => simp [intOf]; omega
              · rw [hm] at o2 HST
                rw [Bool.true_or] at HST
                go_wp2_with fail
                go_region
                go_wp2_with fail
                go_roundw
                case rel => exact ⟨l + 1, by omega, by go_num, HST.out, by first | exact (hbs _).drew | exact hbs2 _⟩
                case measure => simp [intOf]; omega
            · obtain rfl : l = n := by omega
              have hdec : decide ((l : Int) < (l : Int)) = false := decide_eq_false (by omega)
              go_wp2_with fail
              go_roundw
              case rel => exact ⟨k + 1, by omega, by go_num, hSy.congr (col_all _ _ _ _), hby⟩
              case measure => simp [intOf]; omega
        · obtain rfl : k = n := by omega
          have hdec : decide ((k : Int) < (k : Int)) = false := decide_eq_false (by omega)
          go_wp2_with fail
          go_roundw
          case rel => exact ⟨i + 1, by omega, by go_num, hSx.congr (part_row _ _ _), hbx⟩
          case measure => simp [intOf]; omega
    · obtain rfl : i = n := by omega
      have hdec : decide ((i : Int) < (i : Int)) = false := decide_eq_false (by omega)
      go_wp2_with fail
      go_ret
      exact ⟨w.heap.size, rfl, Nat.le_refl _, hS.congr (part_all _ _), hbl⟩
end Go.Proofs.YtdbbooibkiicnaaGreat
