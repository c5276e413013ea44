/- One pass: bounds of what it keeps; a point, by what it keeps. -/
import Derived.Test.YtaomehlhopiblaaOnlS1
import Derived.Test.YtaomehlhopiblaaOnlSt
import Derived.Test.YtaomehlhopiblaaMoved
import Derived.Test.YtaomehlhopiblaaPlanC
import Derived.Test.YtaomehlhopiblaaHand
import Derived.Deep.CutRange
set_option linter.unusedVariables false
set_option linter.unusedSimpArgs false
/-! One pass: bounds of what it keeps; a point, by what it keeps. -/
namespace Go.Proofs.Ytaomehlhopiblaa
open Go.RowKit
attribute [local go_sem ↓] Go.wp_at_zero Go.wp_at_succ
/-- What holds of a pass's state behind some points. -/
structure OnB (t : Tr) (s : OnSt) : Prop where
  len : ∀ j, (s.win j).length ≤ s.pts
  cls : ∀ j h a, t.sub j = .un h a → h.kind = 16 → InW h (s.win j)
  pd : s.pd.length ≤ s.pts
theorem onB_zero (t : Tr) : OnB t on0 := ⟨fun _ => Nat.le_refl _, fun _ _ _ _ _ b hb => (by cases hb), Nat.le_refl _⟩
theorem tell_len (m : Nat) : ∀ L : Pnd, (tellS m L).2.length ≤ L.length
  | [] => Nat.le_refl _
  | p :: L => by
    have ih := tell_len m L
    have h := tell_drop m (pd := p :: L) (j := 0) (p := p) rfl
    simp only [List.drop_zero, Nat.zero_add, List.drop_succ_cons] at h
    rw [h]
    split
    · exact Nat.le_trans ih (Nat.le_succ _)
    · split
      · exact Nat.le_trans ih (Nat.le_succ _)
      · show (tellS m L).2.length + 1 ≤ L.length + 1
        omega
theorem run_keep (m d : Nat) (prop : ByteArray → Bool) (t : Tr) (s : StM) (j : Nat) : ∀ n, (runM m d prop t 0 (j + 1 + n) s).win j = (runM m d prop t 0 (j + 1) s).win j
  | 0 => rfl
  | n + 1 => by
    rw [show j + 1 + (n + 1) = (j + 1 + n) + 1 by omega]
    show (nodeM m d prop (t.sub (j + 1 + n)) (0 + (j + 1 + n)) _).win j = _
    rw [node_win _ _ _ _ _ _ _ (by omega), run_keep m d prop t s j n]
theorem onB_step {m d : Nat} {prop : ByteArray → Bool} {t : Tr} {s : OnSt} (hPl : Pl true t) (h : OnB t s) : OnB t (onlS m d prop t s).2 := by
  refine ⟨fun j => ?_, fun j hd a hs h16 => ?_, ?_⟩
  · have h1 := len_win m d prop t 0 ⟨[], s.win⟩ j
    have h2 := h.len j
    show ((stF m d prop t 0 ⟨[], s.win⟩).2.win j).length ≤ s.pts + 1
    have h3 : (StO.win ⟨[], s.win⟩ j).length = (s.win j).length := rfl
    omega
  · show InW hd ((stF m d prop t 0 ⟨[], s.win⟩).2.win j)
    by_cases hj : j < t.size
    · obtain ⟨_, h2, _⟩ := run_all m d prop hPl (fun _ => noFn) s.win
      rw [← h2]
      obtain ⟨n, hn⟩ : ∃ n, t.size = j + 1 + n := ⟨t.size - (j + 1), by omega⟩
      rw [hn, run_keep]
      show InW hd ((nodeM m d prop (t.sub j) (0 + j) _).win j)
      rw [hs, Nat.zero_add]
      show InW hd ((if hd.kind = 4 then _ else if hd.kind = 16 then _ else _ : StM).win j)
      rw [if_neg (by omega), if_pos h16]
      show InW hd (if j = j then _ else _)
      rw [if_pos rfl]
      exact in_back hd m a _ (in_shift hd d _ _)
    · rw [stF_win m d prop t 0 ⟨[], s.win⟩ j (.inr (by omega))]
      exact h.cls j hd a hs h16
  · have h1 := tell_len m (putPd (stF m d prop t 0 ⟨[], s.win⟩).2.ah s.pd ++ [(s.pts, (stF m d prop t 0 ⟨[], s.win⟩).1.1)])
    rw [List.length_append] at h1
    unfold putPd at h1
    rw [List.length_map] at h1
    have h2 := h.pd
    show (tellS m (putPd (stF m d prop t 0 ⟨[], s.win⟩).2.ah s.pd ++ [(s.pts, (stF m d prop t 0 ⟨[], s.win⟩).1.1)])).2.length ≤ s.pts + 1
    unfold putPd
    have h3 : [(s.pts, (stF m d prop t 0 ⟨[], s.win⟩).1.1)].length = 1 := rfl
    omega
/-- A point. -/
theorem ostep_b {m : Nat} (hm : m ≤ 10) {l : List Nd} (hn : l.length ≤ 1000) {t : Tr} (ht : treeS l = some t) (hf : (formL l && plainS l) = true) (hmt : atomsN t = m) {B go gx gw : Nat} {w : World} {s : OnSt} {last : Nat} {Ap : Option Addr} {cp : Nat}
    (hP : PassW m l t B go gx gw w s last Ap cp) (hB : OnB t s) (hpts : s.pts ≤ 70000) (hlast : last < 18446744073709551616) (time : Nat) (htime : time < 18446744073709551616) (hno : ¬ (0 < s.pts ∧ time < last)) (d : Nat) (hd : d = if 0 < s.pts then time - last else 0)
    (ss : List ByteArray) (An : Option Addr) (nn cn : Nat) (hS : Rd (hx w (gsW go gw Ap)) 1 An nn (ss.map Value.string)) (hnn : ss.length ≤ 100000) :
    Calls Try.prog 4 #[.pointer (some ⟨go, 0, none⟩), .int .u64 (time : Nat), .slice An nn cn] w (RetSt m l t B go gx gw w (gsW go gw Ap) (onlS m d (hasS ss) t s).1 (onlS m d (hasS ss) t s).2 time) :=
  ostep_w hm hn ht hf (by rw [tree_len ht, uptoN_all, ← atomsN_all, hmt]) hP hlast time htime hno d hd (by omega) (by have := hB.pd; omega) (fun j => by have := hB.len j; omega) hB.cls ss An nn cn hS hnn
set_option maxRecDepth 100000 in
set_option maxHeartbeats 2000000 in
/-- A point of a pass that is none. -/
theorem ostepN_w (w : World) (v x : Value) : Calls Try.prog 4 #[.pointer none, v, x] w fun e w' => e = .returned (.tuple #[.slice none 0 0, .int .i64 1]) ∧ w' = w := by
  go_enter Try.func4, Try.ntmps4
  go_wp2_with fail
  go_ret2
  exact ⟨rfl, rfl⟩
end Go.Proofs.Ytaomehlhopiblaa
/-! One pass: the walk of New. -/
namespace Go.Proofs.Ytaomehlhopiblaa
open Go.RowKit
attribute [local go_sem ↓] Go.wp_at_zero Go.wp_at_succ
abbrev set3 (w : World) (g o : Nat) (a b c : Value) : World := ((w.setCell ⟨g, o, none⟩ a).setCell ⟨g, o + 1, none⟩ b).setCell ⟨g, o + 2, none⟩ c
theorem regex_info : (Try.prog.info? 80).map (fun i => (i.zero, i.size, i.bytes)) = some (some (.agg #[.slice none 0 0, .int .i64 0, .slice none 0 0]), 3, 56) := by kernel_rfl
theorem makeRx (w : World) (n : Nat) (hn : n ≤ 1000000) : (Instr.makeSlice 36 (.int .i64 (n : Int)) (.int .i64 (n : Int))).run Try.prog w = .ok (.slice (some ⟨w.heap.size, 0, none⟩) n n) (w.alloc (.cells (madeCells (Value.agg #[.slice none 0 0, .int .i64 0, .slice none 0 0]).cells (n * 3)) 80)) := by
  obtain ⟨i, hi, hz0, hz1, hz2⟩ := info_parts regex_info
  have h := run_make (P := Try.prog) w 36 80 i _ Try.underlying36 hi hz0 .i64 .i64 n n (by omega) (by omega) (by rw [hz2]; omega) (by omega)
  rw [hz1] at h
  simpa using h
theorem makeBk (n : Nat) (hn : n ≤ 1000000) (w : World) : (Instr.makeSlice 37 (.int .i64 (n : Int)) (.int .i64 (n : Int))).run Try.prog w = .ok (.slice (some ⟨w.heap.size, 0, none⟩) n n) (w.alloc (.cells (zeros (.slice none 0 0) n) 57)) :=
  run_make1 _ _ _ 24 Try.underlying37 (by kernel_rfl) rfl n (by omega) (by omega) w
/-- The regular expressions of the matches among the first k places. -/
def RxW (t : Tr) (gx : Nat) (Gs : List Nat) (w : World) (k : Nat) : Prop := ∃ cs : Array Value, Blk w gx 80 cs ∧ cs.size = t.size * 3 ∧ ∀ (i : Nat) (h : Nd) (a : Tr), i < k → t.sub i = .un h a → (h.kind = 16 ∨ h.kind = 17) →
  ∃ Ar cr Ap np cp, cs[i * 3]? = some (.slice Ar a.size cr) ∧ a.size ≤ cr ∧ NodesF (hx w Gs) Ar a.size (a.flat 0) ∧ cs[i * 3 + 1]? = some (.int .i64 (stepsN a : Nat)) ∧
    cs[i * 3 + 2]? = some (.slice Ap np cp) ∧ np ≤ cp ∧ Rd (hx w Gs) 1 Ap np ((partsP a (i - a.size)).map fun p => .int .i64 (p : Nat)) ∧ np ≤ 1000
section
variable {t : Tr} {gx k : Nat} {Gs : List Nat} {w w' : World}
theorem RxW.wr (h : RxW t gx Gs w k) (hb : Wr Gs w w') (hB : w'.heap[gx]? = w.heap[gx]?) : RxW t gx Gs w' k :=
  let ⟨cs, h1, h2, h3⟩ := h
  ⟨cs, hB.trans h1, h2, fun i hd a h4 h5 h6 => let ⟨Ar, cr, Ap, np, cp, e1, e2, e3, e4, e5, e6, e7, e8⟩ := h3 i hd a h4 h5 h6; ⟨Ar, cr, Ap, np, cp, e1, e2, e3.cle hb.cle, e4, e5, e6, e7.cle hb.cle, e8⟩⟩
theorem RxW.lt (h : RxW t gx Gs w k) : gx < w.heap.size := let ⟨_, h1, _⟩ := h; h1.lt
theorem RxW.room (h : RxW t gx Gs w k) {i : Nat} (hi : i < t.size * 3) : (∃ v, w.cell? ⟨gx, i, none⟩ = some v) ∧ w.frozen? ⟨gx, i, none⟩ = false := by
  obtain ⟨cs, h1, h2, _⟩ := h
  exact ⟨⟨_, by rw [h1.cell]; exact Array.getElem?_eq_getElem (by omega)⟩, h1.frozen i⟩
theorem RxW.zero (h : Blk w gx 80 (madeCells (Value.agg #[.slice none 0 0, .int .i64 0, .slice none 0 0]).cells (t.size * 3))) : RxW t gx Gs w 0 :=
  ⟨_, h, size_madeCells _ _, fun i _ _ hi => absurd hi (by omega)⟩
theorem RxW.skip (h : RxW t gx Gs w k) (hk : ∀ hd a, t.sub k = .un hd a → ¬ (hd.kind = 16 ∨ hd.kind = 17)) : RxW t gx Gs w (k + 1) :=
  let ⟨cs, h1, h2, h3⟩ := h
  ⟨cs, h1, h2, fun i hd a h4 h5 h6 => h3 i hd a (by
    by_cases e : i = k
    · subst e; exact absurd h6 (hk hd a h5)
    · omega) h5 h6⟩
theorem wr_set3 (hg : gx ∈ Gs) (o : Nat) (a b c : Value) : Wr Gs w (set3 w gx o a b c) := (((Wr.refl Gs w).set hg _ _).set hg _ _).set hg _ _
theorem RxW.set (h : RxW t gx Gs w k) (hg : gx ∈ Gs) (hk : k < t.size) {hd : Nd} {a : Tr} (hs : t.sub k = .un hd a) {Ar Ap : Option Addr} {cr np cp : Nat} (e2 : a.size ≤ cr) (e3 : NodesF (hx w Gs) Ar a.size (a.flat 0)) (e6 : np ≤ cp) (e7 : Rd (hx w Gs) 1 Ap np ((partsP a (k - a.size)).map fun p => .int .i64 (p : Nat))) (e8 : np ≤ 1000) :
    RxW t gx Gs (set3 w gx (k * 3) (.slice Ar a.size cr) (.int .i64 (stepsN a : Nat)) (.slice Ap np cp)) (k + 1) := by
  obtain ⟨cs, h1, h2, h3⟩ := h
  have hle := (wr_set3 (w := w) hg (k * 3) (.slice Ar a.size cr) (.int .i64 (stepsN a : Nat)) (.slice Ap np cp)).cle
  refine ⟨_, ((h1.set_ _ _).set_ _ _).set_ _ _, by simp [h2], fun i hd' a' h4 h5 h6 => ?_⟩
  by_cases e : i = k
  · subst e
    rw [hs] at h5
    injection h5 with _ h5
    subst h5
    refine ⟨Ar, cr, Ap, np, cp, ?_, e2, e3.cle hle, ?_, ?_, e6, e7.cle hle, e8⟩
    · rw [Array.getElem?_setIfInBounds_ne (by omega), Array.getElem?_setIfInBounds_ne (by omega), Array.getElem?_setIfInBounds_self_of_lt (by omega)]
    · rw [Array.getElem?_setIfInBounds_ne (by omega), Array.getElem?_setIfInBounds_self_of_lt (by simp; omega)]
    · rw [Array.getElem?_setIfInBounds_self_of_lt (by simp; omega)]
  · obtain ⟨Ar', cr', Ap', np', cp', f1, f2, f3, f4, f5, f6, f7, f8⟩ := h3 i hd' a' (by omega) h5 h6
    refine ⟨Ar', cr', Ap', np', cp', ?_, f2, f3.cle hle, ?_, ?_, f6, f7.cle hle, f8⟩
    · rw [Array.getElem?_setIfInBounds_ne (by omega), Array.getElem?_setIfInBounds_ne (by omega), Array.getElem?_setIfInBounds_ne (by omega)]; exact f1
    · rw [Array.getElem?_setIfInBounds_ne (by omega), Array.getElem?_setIfInBounds_ne (by omega), Array.getElem?_setIfInBounds_ne (by omega)]; exact f4
    · rw [Array.getElem?_setIfInBounds_ne (by omega), Array.getElem?_setIfInBounds_ne (by omega), Array.getElem?_setIfInBounds_ne (by omega)]; exact f5
theorem RxW.rxf {Hs : List Nat} (h : RxW t gx Gs w t.size) (hg : gx ∉ Hs) (hs : ∀ g, g ∈ Hs → g ∈ Gs) : RxF (hx w Hs) t gx := fun i hd a h4 h5 h6 => by
  obtain ⟨cs, h1, h2, h3⟩ := h
  obtain ⟨Ar, cr, Ap, np, cp, e1, e2, e3, e4, e5, e6, e7, e8⟩ := h3 i hd a h4 h5 h6
  have hle : CLe (hx w Gs) (hx w Hs) := hx_less hs
  exact ⟨Ar, cr, Ap, np, cp, hx_cell (by rw [h1.cell]; exact e1) hg, e2, e3.cle hle, hx_cell (by rw [h1.cell]; exact e4) hg, hx_cell (by rw [h1.cell]; exact e5) hg, e6, e7.cle hle, e8⟩
end
theorem parts_zs {a : Tr} (o : Nat) : (zs ((testsL a 0).map fun p => o + p - 1)).map encI = (partsP a o).map fun p => .int .i64 (p : Nat) := by
  have h1 : (testsL a o).map (· - 1) = (testsL a 0).map fun p => o + p - 1 := by
    rw [show testsL a o = testsL a (o + 0) from rfl, tests_shift, List.map_map]
    rfl
  rw [parts_tests, h1]
  simp [zs, encI]
/-- The whole of a list is a part of it. -/
theorem part_allT {l : List Nd} {t : Tr} (ht : treeS l = some t) : partL l ((l.length : Int) - 1) = l := by
  have hlen := tree_len ht
  have := Tr.size_pos t
  unfold partL
  rw [ht]
  dsimp only
  rw [if_pos ⟨by omega, by omega⟩, show ((l.length : Int) - 1).toNat = t.size - 1 by omega, Tr.sub_root]
  exact (tree_flat ht).symm
end Go.Proofs.Ytaomehlhopiblaa
