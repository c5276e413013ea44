/- The pile's add: what each number adds. -/
import Derived.Test.YtdohbbjinbofbaaAddA
import Derived.Test.YtdohbbjinbofbaaAddB1
import Derived.Test.YtdohbbjinbofbaaAddB2
import Derived.Test.YtdohbbjinbofbaaAddB3
import Derived.Test.YtdohbbjinbofbaaAddC
import Derived.Test.YtdohbbjinbofbaaAddC16
import Derived.Test.YtdohbbjinbofbaaAddC17
set_option linter.unusedVariables false
set_option linter.unusedSimpArgs false
namespace Go.Proofs.Ytdohbbjinbofbaa
open Go.RowKit
set_option maxRecDepth 100000 in
set_option maxHeartbeats 4000000 in
theorem add_16_0 {F : Fz} {w0 w : World} (hF : Sat F w) (hw : w0.heap.size ≤ w.heap.size) (f : List Tr) (A A' : Option Addr) (c c' : Nat)
    (hf : OwnR F w w0.heap.size (.slice A (f.length) c) (memL f)) (hr : OwnR F w w0.heap.size (.slice A' (0) c') (memL [])) (hap : Apart (.slice A (f.length) c) (.slice A' (0) c')) (arg : Nat) (harg : arg ≤ 3000) :
    Calls Try.prog 75 #[.agg #[.slice A (f.length) c, .slice A' (0) c'], .int .i64 (16 : Int), .int .i64 (arg : Int)] w (RetA F w0 w (f, [])) := by
  go_enter Try.func75, Try.ntmps75
  go_wp2_with fail
  exact bodyPost_ret (v := .agg #[.slice A (f.length) c, .slice A' (0) c']) (by simp [results, Try.results75, go_sem]) rfl ⟨_, _, _, _, F, rfl, (hf.alloc _).alloc _, (hr.alloc _).alloc _, hap, ((Below.refl _ _).alloc hw _).alloc (by simp; omega) _, (hF.alloc _).alloc _, Fle.refl _ _⟩
set_option maxRecDepth 100000 in
set_option maxHeartbeats 4000000 in
theorem add_17_0 {F : Fz} {w0 w : World} (hF : Sat F w) (hw : w0.heap.size ≤ w.heap.size) (f : List Tr) (A A' : Option Addr) (c c' : Nat)
    (hf : OwnR F w w0.heap.size (.slice A (f.length) c) (memL f)) (hr : OwnR F w w0.heap.size (.slice A' (0) c') (memL [])) (hap : Apart (.slice A (f.length) c) (.slice A' (0) c')) (arg : Nat) (harg : arg ≤ 3000) :
    Calls Try.prog 75 #[.agg #[.slice A (f.length) c, .slice A' (0) c'], .int .i64 (17 : Int), .int .i64 (arg : Int)] w (RetA F w0 w (f, [])) := by
  go_enter Try.func75, Try.ntmps75
  go_wp2_with fail
  exact bodyPost_ret (v := .agg #[.slice A (f.length) c, .slice A' (0) c']) (by simp [results, Try.results75, go_sem]) rfl ⟨_, _, _, _, F, rfl, (hf.alloc _).alloc _, (hr.alloc _).alloc _, hap, ((Below.refl _ _).alloc hw _).alloc (by simp; omega) _, (hF.alloc _).alloc _, Fle.refl _ _⟩
set_option maxRecDepth 100000 in
set_option maxHeartbeats 4000000 in
theorem add_20_0 {F : Fz} {w0 w : World} (hF : Sat F w) (hw : w0.heap.size ≤ w.heap.size) (r : List Tr) (A A' : Option Addr) (c c' : Nat)
    (hf : OwnR F w w0.heap.size (.slice A (0) c) (memL [])) (hr : OwnR F w w0.heap.size (.slice A' (r.length) c') (memL r)) (hap : Apart (.slice A (0) c) (.slice A' (r.length) c')) (arg : Nat) (harg : arg ≤ 3000) :
    Calls Try.prog 75 #[.agg #[.slice A (0) c, .slice A' (r.length) c'], .int .i64 (20 : Int), .int .i64 (arg : Int)] w (RetA F w0 w ([], r)) := by
  go_enter Try.func75, Try.ntmps75
  go_wp2_with fail
  exact bodyPost_ret (v := .agg #[.slice A (0) c, .slice A' (r.length) c']) (by simp [results, Try.results75, go_sem]) rfl ⟨_, _, _, _, F, rfl, (hf.alloc _).alloc _, (hr.alloc _).alloc _, hap, ((Below.refl _ _).alloc hw _).alloc (by simp; omega) _, (hF.alloc _).alloc _, Fle.refl _ _⟩
theorem add_w {F : Fz} {w0 w : World} (hF : Sat F w) (hw : w0.heap.size ≤ w.heap.size) (f r : List Tr) (hs : totT f + totT r ≤ 900) (A A' : Option Addr) (c c' : Nat)
    (hf : OwnR F w w0.heap.size (.slice A f.length c) (memL f)) (hr : OwnR F w w0.heap.size (.slice A' r.length c') (memL r)) (hap : Apart (.slice A f.length c) (.slice A' r.length c')) (op arg : Nat) (hop : op < 24) (harg : arg ≤ 3000) :
    Calls Try.prog 75 #[.agg #[.slice A f.length c, .slice A' r.length c'], .int .i64 (op : Int), .int .i64 (arg : Int)] w (RetA F w0 w (addT (f, r) op arg)) := by
  have h : op = 0 ∨ op = 1 ∨ op = 2 ∨ op = 3 ∨ op = 4 ∨ op = 5 ∨ op = 6 ∨ op = 7 ∨ op = 8 ∨ op = 9 ∨ op = 10 ∨ op = 11 ∨ op = 12 ∨ op = 13 ∨ op = 14 ∨ op = 15 ∨ op = 16 ∨ op = 17 ∨ op = 18 ∨ op = 19 ∨ op = 20 ∨ op = 21 ∨ op = 22 ∨ op = 23 := by omega
  rcases h with rfl | rfl | rfl | rfl | rfl | rfl | rfl | rfl | rfl | rfl | rfl | rfl | rfl | rfl | rfl | rfl | rfl | rfl | rfl | rfl | rfl | rfl | rfl | rfl
  · have h : arg % 2 = 0 ∨ arg % 2 = 1 := by omega
    rcases h with h | h
    · have e : addT (f, r) 0 arg = (.leaf (ndK 1) :: f, r) := by simp [addT, h]
      rw [e]
      exact add_0_0 hF hw f r hs A A' c c' hf hr hap arg harg (by omega)
    · have e : addT (f, r) 0 arg = (.leaf (ndK 2) :: f, r) := by simp [addT, h]
      rw [e]
      exact add_0_1 hF hw f r hs A A' c c' hf hr hap arg harg (by omega)
  · have h : arg % 3 = 0 ∨ arg % 3 = 1 ∨ arg % 3 = 2 := by omega
    rcases h with h | h | h
    · have e : addT (f, r) 1 arg = (.leaf (ndP 0) :: f, r) := by simp [addT, h]
      rw [e]
      exact add_1_0 hF hw f r hs A A' c c' hf hr hap arg harg (by omega)
    · have e : addT (f, r) 1 arg = (.leaf (ndP 1) :: f, r) := by simp [addT, h]
      rw [e]
      exact add_1_1 hF hw f r hs A A' c c' hf hr hap arg harg (by omega)
    · have e : addT (f, r) 1 arg = (.leaf (ndP 2) :: f, r) := by simp [addT, h]
      rw [e]
      exact add_1_2 hF hw f r hs A A' c c' hf hr hap arg harg (by omega)
  · have h : arg % 3 = 0 ∨ arg % 3 = 1 ∨ arg % 3 = 2 := by omega
    rcases h with h | h | h
    · have e : addT (f, r) 2 arg = (.leaf (ndP 0) :: f, r) := by simp [addT, h]
      rw [e]
      exact add_2_0 hF hw f r hs A A' c c' hf hr hap arg harg (by omega)
    · have e : addT (f, r) 2 arg = (.leaf (ndP 1) :: f, r) := by simp [addT, h]
      rw [e]
      exact add_2_1 hF hw f r hs A A' c c' hf hr hap arg harg (by omega)
    · have e : addT (f, r) 2 arg = (.leaf (ndP 2) :: f, r) := by simp [addT, h]
      rw [e]
      exact add_2_2 hF hw f r hs A A' c c' hf hr hap arg harg (by omega)
  · have h : arg % 3 = 0 ∨ arg % 3 = 1 ∨ arg % 3 = 2 := by omega
    rcases h with h | h | h
    · have e : addT (f, r) 3 arg = (.leaf (ndP 0) :: f, r) := by simp [addT, h]
      rw [e]
      exact add_3_0 hF hw f r hs A A' c c' hf hr hap arg harg (by omega)
    · have e : addT (f, r) 3 arg = (.leaf (ndP 1) :: f, r) := by simp [addT, h]
      rw [e]
      exact add_3_1 hF hw f r hs A A' c c' hf hr hap arg harg (by omega)
    · have e : addT (f, r) 3 arg = (.leaf (ndP 2) :: f, r) := by simp [addT, h]
      rw [e]
      exact add_3_2 hF hw f r hs A A' c c' hf hr hap arg harg (by omega)
  · match f, hf, hap, hs with
    | [], hf, hap, hs => exact add_4_0 hF hw r hs A A' c c' hf hr hap arg harg
    | t :: f, hf, hap, hs => exact add_4 hF hw t f r hs A A' c c' hf hr hap arg harg
  · match f, hf, hap, hs with
    | [], hf, hap, hs => exact add_5_0 hF hw r hs A A' c c' hf hr hap arg harg
    | [t], hf, hap, hs => exact add_5_1 hF hw t r hs A A' c c' hf hr hap arg harg
    | b :: a :: f, hf, hap, hs => exact add_5 hF hw a b f r hs A A' c c' hf hr hap arg harg
  · match f, hf, hap, hs with
    | [], hf, hap, hs => exact add_6_0 hF hw r hs A A' c c' hf hr hap arg harg
    | [t], hf, hap, hs => exact add_6_1 hF hw t r hs A A' c c' hf hr hap arg harg
    | b :: a :: f, hf, hap, hs => exact add_6 hF hw a b f r hs A A' c c' hf hr hap arg harg
  · match f, hf, hap, hs with
    | [], hf, hap, hs => exact add_7_0 hF hw r hs A A' c c' hf hr hap arg harg
    | [t], hf, hap, hs => exact add_7_1 hF hw t r hs A A' c c' hf hr hap arg harg
    | b :: a :: f, hf, hap, hs => exact add_7 hF hw a b f r hs A A' c c' hf hr hap arg harg
  · match f, hf, hap, hs with
    | [], hf, hap, hs => exact add_8_0 hF hw r hs A A' c c' hf hr hap arg harg
    | t :: f, hf, hap, hs => exact add_8 hF hw t f r hs A A' c c' hf hr hap arg harg
  · match f, hf, hap, hs with
    | [], hf, hap, hs => exact add_9_0 hF hw r hs A A' c c' hf hr hap arg harg
    | t :: f, hf, hap, hs => exact add_9 hF hw t f r hs A A' c c' hf hr hap arg harg
  · match f, hf, hap, hs with
    | [], hf, hap, hs => exact add_10_0 hF hw r hs A A' c c' hf hr hap arg harg
    | t :: f, hf, hap, hs => exact add_10 hF hw t f r hs A A' c c' hf hr hap arg harg
  · match f, hf, hap, hs with
    | [], hf, hap, hs => exact add_11_0 hF hw r hs A A' c c' hf hr hap arg harg
    | t :: f, hf, hap, hs => exact add_11 hF hw t f r hs A A' c c' hf hr hap arg harg
  · match f, hf, hap, hs with
    | [], hf, hap, hs => exact add_12_0 hF hw r hs A A' c c' hf hr hap arg harg
    | t :: f, hf, hap, hs => exact add_12 hF hw t f r hs A A' c c' hf hr hap arg harg
  · match f, hf, hap, hs with
    | [], hf, hap, hs => exact add_13_0 hF hw r hs A A' c c' hf hr hap arg harg
    | t :: f, hf, hap, hs => exact add_13 hF hw t f r hs A A' c c' hf hr hap arg harg
  · match f, hf, hap, hs with
    | [], hf, hap, hs => exact add_14_0 hF hw r hs A A' c c' hf hr hap arg harg
    | [t], hf, hap, hs => exact add_14_1 hF hw t r hs A A' c c' hf hr hap arg harg
    | b :: a :: f, hf, hap, hs => exact add_14 hF hw a b f r hs A A' c c' hf hr hap arg harg
  · match f, hf, hap, hs with
    | [], hf, hap, hs => exact add_15_0 hF hw r hs A A' c c' hf hr hap arg harg
    | [t], hf, hap, hs => exact add_15_1 hF hw t r hs A A' c c' hf hr hap arg harg
    | b :: a :: f, hf, hap, hs => exact add_15 hF hw a b f r hs A A' c c' hf hr hap arg harg
  · match r, hr, hap, hs with
    | [], hr, hap, hs => exact add_16_0 hF hw f A A' c c' hf hr hap arg harg
    | t :: r, hr, hap, hs => exact add_16 hF hw t f r hs A A' c c' hf hr hap arg harg
  · match r, hr, hap, hs with
    | [], hr, hap, hs => exact add_17_0 hF hw f A A' c c' hf hr hap arg harg
    | t :: r, hr, hap, hs => exact add_17 hF hw t f r hs A A' c c' hf hr hap arg harg
  · exact add_18 hF hw f r hs A A' c c' hf hr hap arg harg
  · exact add_19 hF hw f r hs A A' c c' hf hr hap arg harg
  · match f, hf, hap, hs with
    | [], hf, hap, hs => exact add_20_0 hF hw r A A' c c' hf hr hap arg harg
    | t :: f, hf, hap, hs => exact add_20 hF hw t f r hs A A' c c' hf hr hap arg harg
  · match r, hr, hap, hs with
    | [], hr, hap, hs => exact add_21_0 hF hw f hs A A' c c' hf hr hap arg harg
    | [t], hr, hap, hs => exact add_21_1 hF hw t f hs A A' c c' hf hr hap arg harg
    | b :: a :: r, hr, hap, hs => exact add_21 hF hw a b f r hs A A' c c' hf hr hap arg harg
  · match r, hr, hap, hs with
    | [], hr, hap, hs => exact add_22_0 hF hw f hs A A' c c' hf hr hap arg harg
    | [t], hr, hap, hs => exact add_22_1 hF hw t f hs A A' c c' hf hr hap arg harg
    | b :: a :: r, hr, hap, hs => exact add_22 hF hw a b f r hs A A' c c' hf hr hap arg harg
  · match r, hr, hap, hs with
    | [], hr, hap, hs => exact add_23_0 hF hw f hs A A' c c' hf hr hap arg harg
    | t :: r, hr, hap, hs => exact add_23 hF hw t f r hs A A' c c' hf hr hap arg harg
end Go.Proofs.Ytdohbbjinbofbaa
